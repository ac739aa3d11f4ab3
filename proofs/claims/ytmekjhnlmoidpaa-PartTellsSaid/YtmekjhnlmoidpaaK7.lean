/- A part of what the law leans on: the abstract machine, the contracts, the rows. -/
import Derived.Test.YtmekjhnlmoidpaaK6
import Derived.Test.YtmekjhnlmoidpaaK1
import Derived.Test.YtmekjhnlmoidpaaK5
/- Rows: slices that are values, and slices that are one's own. -/
namespace Go.Ai
set_option linter.unusedVariables false
set_option linter.unusedSimpArgs false

structure Has (A : AProg) (n : Nat) (F : AFn) : Prop where
  x : A.ext n = none
  l : A.fns.lookup n = some F
def endR (rs : List ARes) (K : AV → Heap → Prop) (ex : Ex) (st : St) : Prop :=
  match ex with
  | .norm | .ret => resK st.1 st.2 rs K
  | _ => False
theorem endR_ret (rs : List ARes) (K : AV → Heap → Prop) (env : List AV) (H : Heap) : endR rs K .ret (env, H) = resK env H rs K := Eq.trans rfl rfl
theorem endR_norm (rs : List ARes) (K : AV → Heap → Prop) (env : List AV) (H : Heap) : endR rs K .norm (env, H) = resK env H rs K := Eq.trans rfl rfl
theorem pcall_has {A : AProg} {f : Nat} {F : AFn} {args : List AV} {H : Heap} {K : AV → Heap → Prop} (h : Has A f F) (hn : args.length = F.np)
    (hp : PC A F.body (args ++ List.replicate (F.names.length - F.np) .un, H) (hid (endR F.res K) ())) : PCall A f args H K := pcall_in h.x h.l hn (PC.mono hp fun e s q => by cases e <;> exact q)
/-- What a function answers that is called with values alone, out of its body. -/
theorem pval_has {A : AProg} {f : Nat} {F : AFn} {args : List AV} {r : AV} (h : Has A f F) (hn : args.length = F.np)
    (hp : PC A F.body (args ++ List.replicate (F.names.length - F.np) .un, []) (hid (endR F.res (fun v H => viewR H v = some r)) ())) : PVal A f args r := PVal.of (pcall_has h hn hp)
theorem pcall_ext {A : AProg} {f : Nat} {x : List AV → Heap → Option (Out AV)} {args : List AV} {H H1 : Heap} {v : AV} {K : AV → Heap → Prop} (he : A.ext f = some x) (hx : x args H = some (.ok v H1)) (hk : K v H1) : PCall A f args H K :=
  ⟨1, v, H1, by simp [callK, he, hx], hk⟩
theorem pval_ext {A : AProg} {f : Nat} {x : List AV → Heap → Option (Out AV)} {args : List AV} {v : AV} (he : A.ext f = some x) (hx : x args [] = some (.ok v [])) (hc : v.closed = true) : PVal A f args v :=
  ⟨1, v, [], by simp [callK, he, hx], viewR_closed hc⟩

/-! ### The cells of numbers and of edges -/
def cI (xs : List Int) : List AV := xs.map (.int .i64 ·)
theorem cI_len (xs : List Int) : (cI xs).length = xs.length := by simp [cI]
theorem cI_get {xs : List Int} {i : Nat} (h : i < xs.length) : (cI xs)[i]? = some (.int .i64 xs[i]) := by simp [cI, h]
theorem cI_append (xs ys : List Int) : cI (xs ++ ys) = cI xs ++ cI ys := by simp [cI]
theorem cI_cons (x : Int) (ys : List Int) : cI (x :: ys) = .int .i64 x :: cI ys := rfl
theorem cI_nil : cI [] = [] := rfl
theorem cI_set (xs : List Int) (i : Nat) (x : Int) : cI (xs.set i x) = (cI xs).set i (.int .i64 x) := by simp [cI, List.map_set]
theorem cI_take (xs : List Int) (n : Nat) : (cI xs).take n = cI (xs.take n) := by simp [cI, List.map_take]
theorem cI_drop (xs : List Int) (n : Nat) : (cI xs).drop n = cI (xs.drop n) := by simp [cI, List.map_drop]
theorem closeds_cI : ∀ (xs : List Int), AV.closeds (cI xs) = true
  | [] => rfl
  | x :: xs => by rw [cI_cons, closeds_cons, closeds_cI xs]; rfl
theorem ones_cI : ∀ (xs : List Int), (cI xs).all (·.one) = true
  | [] => rfl
  | x :: xs => by rw [cI_cons, List.all_cons, ones_cI xs]; rfl
theorem cI_inj {xs ys : List Int} (h : cI xs = cI ys) : xs = ys := by
  have : Function.Injective (AV.int .i64) := fun a b h => by cases h; rfl
  exact (List.map_inj_right (fun _ _ e => by cases e; rfl)).1 h
abbrev aE (x : Ed) : List AV := [.int .i64 x.1, .int .i64 x.2]
theorem cellsE_nil : cellsE [] = [] := rfl
theorem cellsE_cons (x : Ed) (l : List Ed) : cellsE (x :: l) = .int .i64 x.1 :: .int .i64 x.2 :: cellsE l := rfl
theorem cellsE_append : ∀ (xs ys : List Ed), cellsE (xs ++ ys) = cellsE xs ++ cellsE ys
  | [], ys => rfl
  | x :: l, ys => by simp [cellsE, cellsE_append l ys]
theorem closeds_cE : ∀ (xs : List Ed), AV.closeds (cellsE xs) = true
  | [] => rfl
  | x :: xs => by rw [cellsE_cons, closeds_cons, closeds_cons, closeds_cE xs]; rfl
theorem ones_cE : ∀ (xs : List Ed), (cellsE xs).all (·.one) = true
  | [] => rfl
  | x :: xs => by rw [cellsE_cons, List.all_cons, List.all_cons, ones_cE xs]; rfl
theorem cE_get (es : List Ed) : ∀ (i : Nat) (h : i < es.length), (cellsE es)[i * 2]? = some (.int .i64 es[i].1) ∧ (cellsE es)[i * 2 + 1]? = some (.int .i64 es[i].2) := by
  induction es with
  | nil => intro i h; simp at h
  | cons x l ih =>
    intro i h
    cases i with
    | zero => exact ⟨rfl, rfl⟩
    | succ i =>
      obtain ⟨h1, h2⟩ := ih i (by simpa using h)
      refine ⟨?_, ?_⟩
      · rw [show (i + 1) * 2 = i * 2 + 1 + 1 by omega]; simpa [cellsE] using h1
      · rw [show (i + 1) * 2 + 1 = i * 2 + 1 + 1 + 1 by omega]; simpa [cellsE] using h2
theorem cE_drop : ∀ (es : List Ed) (i : Nat), (cellsE es).drop (i * 2) = cellsE (es.drop i)
  | es, 0 => by simp
  | [], i + 1 => by simp [cellsE]
  | x :: l, i + 1 => by
    rw [show (i + 1) * 2 = i * 2 + 1 + 1 by omega]
    simpa [cellsE] using cE_drop l i
theorem cE_take : ∀ (es : List Ed) (i : Nat), (cellsE es).take (i * 2) = cellsE (es.take i)
  | es, 0 => by simp [cellsE]
  | [], i + 1 => by simp [cellsE]
  | x :: l, i + 1 => by
    rw [show (i + 1) * 2 = i * 2 + 1 + 1 by omega]
    simpa [cellsE] using cE_take l i
theorem cE_two {es : List Ed} {i : Nat} (h : i < es.length) : ((cellsE es).drop (i * 2)).take 2 = [.int .i64 es[i].1, .int .i64 es[i].2] := by
  rw [cE_drop, List.drop_eq_getElem_cons h]; rfl
theorem cE_inj : ∀ {xs ys : List Ed}, cellsE xs = cellsE ys → xs = ys
  | [], [], _ => rfl
  | [], y :: ys, h => by simp [cellsE] at h
  | x :: xs, [], h => by simp [cellsE] at h
  | x :: xs, y :: ys, h => by
    simp only [cellsE, List.cons.injEq, AV.int.injEq, true_and] at h
    obtain ⟨h1, h2, h3⟩ := h
    rw [cE_inj h3]
    congr 1
    exact Prod.ext h1 h2

/-! ### A row as a value -/
/-- What a row comes to: nil where it is empty and 'nl'. -/
def rv (nl : Bool) (n sz : Nat) (c : List AV) : AV := if nl = true ∧ n = 0 then .nils else .vs n sz c
abbrev vI (xs : List Int) : AV := .vs xs.length 1 (cI xs)
abbrev vE (es : List Ed) : AV := .vs es.length 2 (cellsE es)
abbrev rI (xs : List Int) : AV := rv true xs.length 1 (cI xs)
abbrev rE (es : List Ed) : AV := rv true es.length 2 (cellsE es)
/-- The value reads as this row of n elements of sz cells each. -/
def Is (v : AV) (sz n : Nat) (c : List AV) : Prop := c.length = n * sz ∧ AV.closeds c = true ∧ ((v = .nils ∧ n = 0) ∨ v = .vs n sz c)
abbrev IsI (v : AV) (xs : List Int) : Prop := Is v 1 xs.length (cI xs)
abbrev IsE (v : AV) (es : List Ed) : Prop := Is v 2 es.length (cellsE es)
theorem isI_nil : IsI .nils [] := ⟨rfl, rfl, .inl ⟨rfl, rfl⟩⟩
theorem isE_nil : IsE .nils [] := ⟨rfl, rfl, .inl ⟨rfl, rfl⟩⟩
theorem isI_v (xs : List Int) : IsI (vI xs) xs := ⟨by simp [cI], closeds_cI xs, .inr rfl⟩
theorem isE_v (es : List Ed) : IsE (vE es) es := ⟨cellsE_length es, closeds_cE es, .inr rfl⟩
theorem is_rv {nl : Bool} {n sz : Nat} {c : List AV} (hl : c.length = n * sz) (hc : AV.closeds c = true) : Is (rv nl n sz c) sz n c := by
  refine ⟨hl, hc, ?_⟩
  unfold rv
  split
  · rename_i h; exact .inl ⟨rfl, h.2⟩
  · exact .inr rfl
theorem isI_r (xs : List Int) : IsI (rI xs) xs := is_rv (by simp [cI]) (closeds_cI xs)
theorem isE_r (es : List Ed) : IsE (rE es) es := is_rv (cellsE_length es) (closeds_cE es)
variable {v : AV} {sz n : Nat} {c : List AV}
theorem Is.closed (h : Is v sz n c) : v.closed = true := by
  obtain ⟨_, h2, ⟨rfl, _⟩ | rfl⟩ := h
  · rfl
  · exact h2
theorem Is.one (h : Is v sz n c) : v.one = true := by obtain ⟨_, h2, ⟨rfl, _⟩ | rfl⟩ := h <;> rfl
theorem Is.cells (h : Is v sz n c) : v.cells = [v] := by obtain ⟨_, h2, ⟨rfl, _⟩ | rfl⟩ := h <;> rfl
theorem Is.part (h : Is v sz n c) : v.part = true := by obtain ⟨_, h2, ⟨rfl, _⟩ | rfl⟩ := h <;> rfl
theorem Is.len (h : Is v sz n c) (rd : Nat → Option Ob) : nstep .lenS [v] rd = some (.val (.int .i64 n)) := by
  obtain ⟨_, h2, ⟨rfl, rfl⟩ | rfl⟩ := h <;> rfl
theorem Is.src (h : Is v sz n c) (H : Heap) : srcCells H sz v = some (n, c) := by
  obtain ⟨h1, h2, ⟨rfl, rfl⟩ | rfl⟩ := h
  · simp at h1; subst h1; rfl
  · exact src_vs H n sz c
theorem Is.idx (h : Is v sz n c) (hz : 0 < sz) {i : Nat} (hi : i < n) (k : IntKind) (rd : Nat → Option Ob) : nstep (.idx sz) [v, .int k (i : Int)] rd = some (.val (.vp c (i * sz))) := by
  obtain ⟨h1, h2, ⟨rfl, rfl⟩ | rfl⟩ := h
  · omega
  · rw [n_idxV, if_pos ⟨rfl, hz, by omega, by omega⟩]; simp
/-- An element of a row of numbers. -/
theorem IsI.at {v : AV} {xs : List Int} (h : IsI v xs) {i : Nat} (hi : i < xs.length) : (∀ (k : IntKind) rd, nstep (.idx 1) [v, .int k (i : Int)] rd = some (.val (.vp (cI xs) i))) ∧ (cI xs)[i]? = some (.int .i64 xs[i]) :=
  ⟨fun k rd => by have := Is.idx h (by omega) hi k rd; rwa [Nat.mul_one] at this, cI_get hi⟩
theorem IsE.at {v : AV} {es : List Ed} (h : IsE v es) {i : Nat} (hi : i < es.length) : (∀ (k : IntKind) rd, nstep (.idx 2) [v, .int k (i : Int)] rd = some (.val (.vp (cellsE es) (i * 2)))) ∧ (cellsE es)[i * 2]? = some (.int .i64 es[i].1) ∧ (cellsE es)[i * 2 + 1]? = some (.int .i64 es[i].2) ∧
    i * 2 + 2 ≤ (cellsE es).length ∧ ((cellsE es).drop (i * 2)).take 2 = [.int .i64 es[i].1, .int .i64 es[i].2] :=
  ⟨fun k rd => Is.idx h (by omega) hi k rd, (cE_get es i hi).1, (cE_get es i hi).2, by rw [cellsE_length]; omega, cE_two hi⟩

/-! ### A row that is one's own -/
/-- From object P on. -/
def Own (nl : Bool) (P : Nat) (H : Heap) (v : AV) (sz n : Nat) (c : List AV) : Prop :=
  (n = 0 ∧ c = [] ∧ if nl = true then v = .nils else ∃ b g o, v = .sl b g o 0 sz 0 true) ∨ (0 < n ∧ ∃ b g ex, v = .sl b g 0 n sz n ex ∧ P ≤ b ∧ c.length = n * sz ∧ H[b]? = some (.cells g false c))
abbrev OwnI (nl : Bool) (P : Nat) (H : Heap) (v : AV) (xs : List Int) : Prop := Own nl P H v 1 xs.length (cI xs)
abbrev OwnE (nl : Bool) (P : Nat) (H : Heap) (v : AV) (es : List Ed) : Prop := Own nl P H v 2 es.length (cellsE es)
/-- The object that it lies in. -/
def blkOf : AV → Option Nat
  | .sl b _ _ n _ _ _ => if n = 0 then none else some b
  | _ => none
variable {nl : Bool} {P : Nat} {H H' : Heap}
theorem own_nil (P : Nat) (H : Heap) (sz : Nat) : Own true P H .nils sz 0 [] := .inl ⟨rfl, rfl, rfl⟩
theorem own_empty (P : Nat) (H : Heap) (sz b g o : Nat) : Own false P H (.sl b g o 0 sz 0 true) sz 0 [] := .inl ⟨rfl, rfl, b, g, o, rfl⟩
theorem ownI_empty (P : Nat) (H : Heap) (b g o : Nat) : OwnI false P H (.sl b g o 0 1 0 true) [] := own_empty P H 1 b g o
theorem ownE_empty (P : Nat) (H : Heap) (b g o : Nat) : OwnE false P H (.sl b g o 0 2 0 true) [] := own_empty P H 2 b g o
theorem own_new {b g : Nat} {ex : Bool} (hP : P ≤ b) (hl : c.length = n * sz) (hb : H[b]? = some (.cells g false c)) (he : n = 0 → ex = true) : Own false P H (.sl b g 0 n sz n ex) sz n c := by
  rcases Nat.eq_zero_or_pos n with h | h
  · subst h
    simp at hl
    exact .inl ⟨rfl, hl, b, g, 0, by rw [he rfl]⟩
  · exact .inr ⟨h, b, g, ex, rfl, hP, hl, hb⟩
theorem Own.cl (h : Own nl P H v sz n c) : c.length = n * sz := by
  rcases h with ⟨rfl, rfl, _⟩ | ⟨_, b, g, ex, _, _, h, _⟩
  · simp
  · exact h
theorem Own.one (h : Own nl P H v sz n c) : v.one = true := by
  rcases h with ⟨rfl, rfl, h⟩ | ⟨_, b, g, ex, rfl, _, h, _⟩
  · cases nl
    · obtain ⟨b, g, o, rfl⟩ := h; rfl
    · have : v = .nils := h
      subst this; rfl
  · rfl
theorem Own.cells (h : Own nl P H v sz n c) : v.cells = [v] := by
  rcases h with ⟨rfl, rfl, h⟩ | ⟨_, b, g, ex, rfl, _, h, _⟩
  · cases nl
    · obtain ⟨b, g, o, rfl⟩ := h; rfl
    · have : v = .nils := h
      subst this; rfl
  · rfl
theorem Own.part (h : Own nl P H v sz n c) : v.part = true := by
  rcases h with ⟨rfl, rfl, h⟩ | ⟨_, b, g, ex, rfl, _, h, _⟩
  · cases nl
    · obtain ⟨b, g, o, rfl⟩ := h; rfl
    · have : v = .nils := h
      subst this; rfl
  · rfl
theorem Own.keep (h : Own nl P H v sz n c) (hk : ∀ b, b < H.length → blkOf v = some b → H'[b]? = H[b]?) : Own nl P H' v sz n c := by
  rcases h with ⟨rfl, rfl, h⟩ | ⟨h0, b, g, ex, rfl, h1, h2, hb⟩
  · exact .inl ⟨rfl, rfl, h⟩
  · exact .inr ⟨h0, b, g, ex, rfl, h1, h2, by rw [hk b (List.getElem?_eq_some_iff.1 hb).1 (by simp [blkOf]; omega)]; exact hb⟩
theorem Own.more (h : Own nl P H v sz n c) (J : Heap) : Own nl P (H ++ J) v sz n c := h.keep fun b hb _ => List.getElem?_append_left hb
theorem Own.blk (h : Own nl P H v sz n c) {b : Nat} (hb : blkOf v = some b) : P ≤ b ∧ b < H.length := by
  rcases h with ⟨rfl, rfl, h⟩ | ⟨h0, b', g, ex, rfl, h1, h2, hb'⟩
  · cases nl
    · obtain ⟨b, g, o, rfl⟩ := h; simp [blkOf] at hb
    · have : v = .nils := h
      subst this; simp [blkOf] at hb
  · simp only [blkOf] at hb
    rw [if_neg (by omega)] at hb
    cases hb; exact ⟨h1, (List.getElem?_eq_some_iff.1 hb').1⟩
theorem Own.weak (h : Own nl P H v sz n c) {P' : Nat} (hP : P' ≤ P) : Own nl P' H v sz n c := by
  rcases h with h | ⟨h0, b, g, ex, rfl, h1, h2, hb⟩
  · exact .inl h
  · exact .inr ⟨h0, b, g, ex, rfl, by omega, h2, hb⟩
theorem Own.len (h : Own nl P H v sz n c) (rd : Nat → Option Ob) : nstep .lenS [v] rd = some (.val (.int .i64 n)) := by
  rcases h with ⟨rfl, rfl, h⟩ | ⟨h0, b, g, ex, rfl, h1, h2, hb⟩
  · cases nl
    · obtain ⟨b, g, o, rfl⟩ := h; rfl
    · have : v = .nils := h
      subst this; rfl
  · rfl
theorem Own.src (h : Own nl P H v sz n c) : srcCells H sz v = some (n, c) := by
  rcases h with ⟨rfl, rfl, h⟩ | ⟨h0, b, g, ex, rfl, h1, h2, hb⟩
  · cases nl
    · obtain ⟨b, g, o, rfl⟩ := h; simp [srcCells]
    · have : v = .nils := h
      subst this; simp [srcCells]
  · have : ¬ n = 0 := by omega
    have e : c.take (n * sz) = c := by rw [← h2, List.take_length]
    simp [srcCells, this, rdSl, hb, h2, e]
/-- Where an element lies. -/
theorem Own.at (h : Own nl P H v sz n c) {i : Nat} (hi : i < n) : ∃ b g, (∀ (k : IntKind) rd, nstep (.idx sz) [v, .int k (i : Int)] rd = some (.val (.ptr b g (i * sz)))) ∧ H[b]? = some (.cells g false c) ∧ blkOf v = some b ∧ P ≤ b ∧
    (∀ c', c'.length = c.length → Own nl P (H.set b (.cells g false c')) v sz n c') := by
  rcases h with ⟨rfl, rfl, h⟩ | ⟨h0, b, g, ex, rfl, h1, h2, hb⟩
  · omega
  · refine ⟨b, g, fun k rd => ?_, hb, by simp only [blkOf]; rw [if_neg (by omega)], h1, fun c' hc' => .inr ⟨h0, b, g, ex, rfl, h1, by rw [hc', h2], List.getElem?_set_self (List.getElem?_eq_some_iff.1 hb).1⟩⟩
    rw [n_idx, if_pos ⟨by omega, by omega⟩]; simp
/-- Elements are appended. -/
theorem Own.app {bytes m : Nat} {u : AV} {xs : List AV} (h : Own nl P H v sz n c) (hsrc : srcCells H sz u = some (m, xs)) (hxl : xs.length = m * sz) (hone : xs.all (·.one) = true) (hP : P ≤ H.length) (hn : (n + m) * bytes ≤ 140737488355328 ∧ n + m ≤ 140737488355328) :
    ∃ v' H', xstep (.app sz bytes) [v, u] H = some (v', H') ∧ Own nl P H' v' sz (n + m) (c ++ xs) ∧ (∀ b, b < H.length → blkOf v ≠ some b → H'[b]? = H[b]?) ∧ H.length ≤ H'.length ∧ (∀ b, blkOf v' = some b → blkOf v = some b ∨ H.length ≤ b) := by
  have e0 : xstep (.app sz bytes) [v, u] H = appStep sz bytes v m xs H := by simp only [xstep, hsrc]
  rw [e0]
  unfold appStep
  simp only [hone, Bool.not_true, Bool.false_eq_true, if_false]
  by_cases hm : m = 0
  · subst hm
    simp at hxl
    subst hxl
    rcases h with ⟨rfl, rfl, h⟩ | ⟨h0, b, g, ex, rfl, h1, h2, hb⟩
    · cases nl
      · obtain ⟨b, g, o, rfl⟩ := h
        exact ⟨_, H, by simp, by simpa using own_empty P H sz b g o, fun _ _ _ => rfl, Nat.le_refl _, fun b hb => .inl hb⟩
      · have : v = .nils := h
        subst this
        exact ⟨.nils, H, by simp, by simpa using own_nil P H sz, fun _ _ _ => rfl, Nat.le_refl _, fun b hb => .inl hb⟩
    · exact ⟨_, H, by simp, .inr ⟨by omega, b, g, ex, by simp, h1, by simpa using h2, by simpa using hb⟩, fun _ _ _ => rfl, Nat.le_refl _, fun b hb => .inl hb⟩
  rcases h with ⟨rfl, rfl, h⟩ | ⟨h0, b, g, ex, rfl, h1, h2, hb⟩
  · simp only [Nat.zero_add] at hn ⊢
    have hown : ∀ nl, Own nl P (H ++ [.cells 0 false xs]) (.sl H.length 0 0 m sz m false) sz m ([] ++ xs) := fun nl => .inr ⟨by omega, H.length, 0, false, rfl, hP, by simpa using hxl, by simp⟩
    have hnew : ∀ b, blkOf (.sl H.length 0 0 m sz m false) = some b → H.length ≤ b := fun b hb => by
      simp only [blkOf] at hb
      rw [if_neg hm] at hb; cases hb; exact Nat.le_refl _
    cases nl
    · obtain ⟨b, g, o, rfl⟩ := h
      refine ⟨_, _, ?_, hown _, fun b hb _ => List.getElem?_append_left hb, by simp, fun b hb => .inr (hnew b hb)⟩
      have hm0 : ¬ (0 + m ≤ 0) := by omega
      simp [hm, hn]
    · have : v = .nils := h
      subst this
      refine ⟨_, _, ?_, hown _, fun b hb _ => List.getElem?_append_left hb, by simp, fun b hb => .inr (hnew b hb)⟩
      simp [hm, hn]
  · have e3 : ¬ n = 0 := by omega
    have hm0 : ¬ (n + m ≤ n) := by omega
    cases ex with
    | true =>
      have hrd : rdSl H b g 0 (n * sz) = some c := by
        have : c.take (n * sz) = c := by rw [← h2, List.take_length]
        simp [rdSl, hb, h2, this]
      refine ⟨.sl H.length 0 0 (n + m) sz (n + m) false, H ++ [.cells 0 false (c ++ xs)], ?_, .inr ⟨by omega, H.length, 0, false, rfl, hP, by simp [h2, hxl, Nat.add_mul], by simp⟩, fun b hb _ => List.getElem?_append_left hb, by simp, fun b hb => .inr ?_⟩
      · simp [hm, hn, e3, hrd, hm0]
      · simp only [blkOf] at hb
        rw [if_neg (by omega)] at hb; cases hb; exact Nat.le_refl _
    | false =>
      refine ⟨.sl b (g + 1) 0 (n + m) sz (n + m) false, H.set b (.cells (g + 1) false (c ++ xs)), ?_, .inr ⟨by omega, b, g + 1, false, rfl, h1, by simp [h2, hxl, Nat.add_mul], ?_⟩, fun b' hb' hne => List.getElem?_set_ne (fun e => hne ?_), by simp, fun b' hb' => .inl ?_⟩
      · have hz : 0 < n := h0
        simp [hm, hn, hb, h2, hz]
        omega
      · rw [List.getElem?_set_self (List.getElem?_eq_some_iff.1 hb).1]
      · simp only [blkOf]; rw [if_neg e3, e]
      · simp only [blkOf] at hb' ⊢
        rw [if_neg (by omega)] at hb'; rw [if_neg e3]; exact hb'
/-- One element is appended, out of a row of one that has just been made. -/
theorem Own.app1 {bytes : Nat} {x : List AV} (h : Own nl P H v sz n c) (hx : x.length = sz) (hone : x.all (·.one) = true) (hP : P ≤ H.length) (hn : (n + 1) * bytes ≤ 140737488355328 ∧ n + 1 ≤ 140737488355328) :
    ∃ v' H', xstep (.app sz bytes) [v, .sl H.length 0 0 1 sz 1 true] (H ++ [.cells 0 false x]) = some (v', H') ∧ Own nl P H' v' sz (n + 1) (c ++ x) ∧ (∀ b, b < H.length → blkOf v ≠ some b → H'[b]? = H[b]?) ∧ H.length + 1 ≤ H'.length ∧ (∀ b, blkOf v' = some b → blkOf v = some b ∨ H.length < b) := by
  obtain ⟨v', H', h1, h2, h3, h4, h5⟩ := Own.app (u := .sl H.length 0 0 1 sz 1 true) (m := 1) (xs := x) (bytes := bytes) (h.more [.cells 0 false x]) (by
    have : x.take sz = x := by rw [← hx, List.take_length]
    simp [srcCells, rdSl, hx, this]) (by simpa using hx) hone (by simp; omega) hn
  refine ⟨v', H', h1, h2, fun b hb hne => ?_, by simpa using h4, fun b hb => ?_⟩
  · rw [h3 b (by simp; omega) hne, List.getElem?_append_left hb]
  · rcases h5 b hb with h | h
    · exact .inl h
    · right; simp at h; omega
/-- As a value: an answer. -/
theorem Own.viewR (h : Own nl P H v sz n c) (hc : AV.closeds c = true) : viewR H v = some (rv nl n sz c) := by
  rcases h with ⟨rfl, rfl, h⟩ | ⟨h0, b, g, ex, rfl, h1, h2, hb⟩
  · cases nl
    · obtain ⟨b, g, o, rfl⟩ := h
      simp [Go.Ai.viewR_def, fuelV, reachV_sl0, frzH_nil, viewV_sl0, rv]
    · have : v = .nils := h
      subst this
      rw [viewR_closed rfl]; simp [rv]
  · have hn : ¬ n = 0 := by omega
    have hlt := (List.getElem?_eq_some_iff.1 hb).1
    rw [Go.Ai.viewR_def]
    rw [show fuelV = 10 + 2 from rfl, reachV_sl _ _ _ _ _ _ _ _ _ _ _ hb hn hc, frzH_cons _ _ _ _ hb, frzH_nil, viewV_sl (c := c) _ _ _ _ _ _ _ _ (List.getElem?_set_self hlt) hn (by omega) hc]
    simp [rv, hn, ← h2]
/-- As a value: an argument, among values. -/
theorem Own.viewA {pre post : List AV} (h : Own nl P H v sz n c) (hc : AV.closeds c = true) (h1 : AV.closeds pre = true) (h2 : AV.closeds post = true) :
    ∃ H', viewA H (pre ++ v :: post) = some (pre ++ rv nl n sz c :: post, H') ∧ H'.length = H.length ∧ (∀ b, blkOf v ≠ some b → H'[b]? = H[b]?) := by
  have hr : ∀ (l : List AV), AV.closeds l = true → reachL H 12 (l ++ v :: post) = reachV H 11 v := by
    intro l hl
    induction l with
    | nil => rw [List.nil_append, reachL_cons, reachL_closed _ h2, List.append_nil]
    | cons x l ih =>
      simp only [closeds_cons, Bool.and_eq_true] at hl
      rw [List.cons_append, reachL_cons, ih hl.2, reachV_closed _ hl.1, List.nil_append]
  have hv : ∀ (H' : Heap) (r : AV), viewV H' 11 v = some r → ∀ (l : List AV), AV.closeds l = true → viewL H' 12 (l ++ v :: post) = some (l ++ r :: post) := by
    intro H' r hr l hl
    induction l with
    | nil => rw [List.nil_append, viewL_cons, hr, viewL_closed _ h2]; rfl
    | cons x l ih =>
      simp only [closeds_cons, Bool.and_eq_true] at hl
      rw [List.cons_append, viewL_cons, ih hl.2, viewV_closed _ hl.1]; rfl
  rw [Go.Ai.viewA_def]
  rw [show fuelV = 12 from rfl, hr pre h1]
  rcases h with ⟨rfl, rfl, h⟩ | ⟨h0, b, g, ex, rfl, h3, h4, hb⟩
  · cases nl
    · obtain ⟨b, g, o, rfl⟩ := h
      refine ⟨H, ?_, rfl, fun _ _ => rfl⟩
      rw [show (11 : Nat) = 10 + 1 from rfl, reachV_sl0, frzH_nil, hv H _ (viewV_sl0 10 ..) pre h1]
      simp [rv]
    · have : v = .nils := h
      subst this
      refine ⟨H, ?_, rfl, fun _ _ => rfl⟩
      rw [show (11 : Nat) = 10 + 1 from rfl, reachV_closed _ rfl, frzH_nil, hv H _ (viewV_closed 10 rfl) pre h1]
      simp [rv]
  · have hn : ¬ n = 0 := by omega
    have hlt := (List.getElem?_eq_some_iff.1 hb).1
    refine ⟨H.set b (.cells g true c), ?_, by simp, fun b' hne => List.getElem?_set_ne (fun e => hne (by simp only [blkOf]; rw [if_neg hn, e]))⟩
    rw [show (11 : Nat) = 10 + 1 from rfl, reachV_sl _ _ _ _ _ _ _ _ _ _ _ hb hn hc, frzH_cons _ _ _ _ hb, frzH_nil, hv _ (.vs n sz c) (by
      rw [show (11 : Nat) = 9 + 2 from rfl, viewV_sl (c := c) _ _ _ _ _ _ _ _ (List.getElem?_set_self hlt) hn (by omega) hc]
      simp [← h4]) pre h1]
    simp [rv, hn]
/-- The same, within a struct. -/
theorem Own.viewAg {pre post q : List AV} (h : Own nl P H v sz n c) (hc : AV.closeds c = true) (h1 : AV.closeds pre = true) (h2 : AV.closeds post = true) (h3 : AV.closeds q = true) :
    ∃ H', Go.Ai.viewA H (.agg (pre ++ v :: post) :: q) = some (.agg (pre ++ rv nl n sz c :: post) :: q, H') ∧ H'.length = H.length ∧ (∀ b, blkOf v ≠ some b → H'[b]? = H[b]?) := by
  have hr : ∀ (l : List AV), AV.closeds l = true → reachL H 10 (l ++ v :: post) = reachV H 9 v := by
    intro l hl
    induction l with
    | nil => rw [List.nil_append, reachL_cons, reachL_closed _ h2, List.append_nil]
    | cons x l ih =>
      simp only [closeds_cons, Bool.and_eq_true] at hl
      rw [List.cons_append, reachL_cons, ih hl.2, reachV_closed _ hl.1, List.nil_append]
  have hv : ∀ (H' : Heap) (r : AV), viewV H' 9 v = some r → ∀ (l : List AV), AV.closeds l = true → viewL H' 10 (l ++ v :: post) = some (l ++ r :: post) := by
    intro H' r hr l hl
    induction l with
    | nil => rw [List.nil_append, viewL_cons, hr, viewL_closed _ h2]; rfl
    | cons x l ih =>
      simp only [closeds_cons, Bool.and_eq_true] at hl
      rw [List.cons_append, viewL_cons, ih hl.2, viewV_closed _ hl.1]; rfl
  rw [Go.Ai.viewA_def]
  rw [show fuelV = 12 from rfl, show (12 : Nat) = 11 + 1 from rfl, reachL_cons, show (11 : Nat) = 10 + 1 from rfl, reachV_agg, hr pre h1, reachL_closed _ h3, List.append_nil]
  have fin : ∀ (H' : Heap) (r : AV), viewV H' 9 v = some r → viewL H' (10 + 1 + 1) (AV.agg (pre ++ v :: post) :: q) = some (AV.agg (pre ++ r :: post) :: q) := by
    intro H' r hr
    rw [show (10 + 1 + 1 : Nat) = 10 + 2 from rfl, viewL_cons, show (10 + 1 : Nat) = 9 + 2 from rfl, viewV_agg, hv H' r hr pre h1, viewL_closed _ h3]; rfl
  rcases h with ⟨rfl, rfl, h⟩ | ⟨h0, b, g, ex, rfl, h5, h4, hb⟩
  · cases nl
    · obtain ⟨b, g, o, rfl⟩ := h
      refine ⟨H, ?_, rfl, fun _ _ => rfl⟩
      rw [show (9 : Nat) = 8 + 1 from rfl, reachV_sl0, frzH_nil, fin H _ (viewV_sl0 8 ..)]
      simp [rv]
    · have : v = .nils := h
      subst this
      refine ⟨H, ?_, rfl, fun _ _ => rfl⟩
      rw [show (9 : Nat) = 8 + 1 from rfl, reachV_closed _ rfl, frzH_nil, fin H _ (viewV_closed 8 rfl)]
      simp [rv]
  · have hn : ¬ n = 0 := by omega
    have hlt := (List.getElem?_eq_some_iff.1 hb).1
    refine ⟨H.set b (.cells g true c), ?_, by simp, fun b' hne => List.getElem?_set_ne (fun e => hne (by simp only [blkOf]; rw [if_neg hn, e]))⟩
    rw [show (9 : Nat) = 8 + 1 from rfl, reachV_sl _ _ _ _ _ _ _ _ _ _ _ hb hn hc, frzH_cons _ _ _ _ hb, frzH_nil, fin _ (.vs n sz c) (by
      rw [show (9 : Nat) = 7 + 2 from rfl, viewV_sl (c := c) _ _ _ _ _ _ _ _ (List.getElem?_set_self hlt) hn (by omega) hc]
      simp [← h4])]
    simp [rv, hn]
/-- A slice that has just been made, as the one argument. -/
def vaSl (H : Heap) (b g n sz cl : Nat) (ex : Bool) : Option Ob → Option (List AV × Heap)
  | some (.cells g' false c) => if g' = g ∧ AV.closeds c = true ∧ c.length = n * sz ∧ n ≠ 0 then some ([.vs n sz c], H.set b (.cells g true c)) else hid (viewA H [.sl b g 0 n sz cl ex]) ()
  | _ => hid (viewA H [.sl b g 0 n sz cl ex]) ()
theorem viewA_sl1 (H : Heap) (b g n sz cl : Nat) (ex : Bool) : viewA H [.sl b g 0 n sz cl ex] = vaSl H b g n sz cl ex (H[b]?) := by
  unfold vaSl
  split
  · rename_i g' c hb
    split
    · rename_i hc
      obtain ⟨rfl, h1, h2, h3⟩ := hc
      have hlt := (List.getElem?_eq_some_iff.1 hb).1
      rw [Go.Ai.viewA_def]
      rw [show fuelV = 10 + 2 from rfl, show (10 + 2 : Nat) = 11 + 1 from rfl, reachL_cons, reachL_nil, List.append_nil, show (11 : Nat) = 10 + 1 from rfl, reachV_sl _ _ _ _ _ _ _ _ _ _ _ hb h3 h1, frzH_cons _ _ _ _ hb, frzH_nil,
        show (10 + 1 + 1 : Nat) = 10 + 2 from rfl, viewL_cons, viewL_nil, show (10 + 1 : Nat) = 9 + 2 from rfl, viewV_sl (c := c) _ _ _ _ _ _ _ _ (List.getElem?_set_self hlt) h3 (by omega) h1]
      simp [← h2]
    · rfl
  · rfl
theorem vaSl_cells (H : Heap) (b g n sz cl : Nat) (ex : Bool) (g' : Nat) (c : List AV) : vaSl H b g n sz cl ex (some (.cells g' false c)) = if g' = g ∧ AV.closeds c = true ∧ c.length = n * sz ∧ n ≠ 0 then some ([.vs n sz c], H.set b (.cells g true c)) else hid (viewA H [.sl b g 0 n sz cl ex]) () := rfl
theorem setAt_one {c : List AV} {o : Nat} (x : AV) (h : o < c.length) : setAt c o [x] = c.set o x := by
  apply List.ext_getElem?
  intro i
  rw [setAt_get (by simp; omega), List.getElem?_set]
  by_cases e : o = i
  · subst e; simp [h]
  · rw [if_neg (by simp; omega), if_neg e]
theorem lt_of_get {H : Heap} {b : Nat} {x : Ob} (h : H[b]? = some x) : b < H.length := (List.getElem?_eq_some_iff.1 h).1
theorem OwnI.app1 {v : AV} {xs : List Int} (h : OwnI nl P H v xs) (x : Int) (hP : P ≤ H.length) (hn : xs.length < 1000000000000) :
    ∃ v' H', xstep (.app 1 8) [v, .sl H.length 0 0 1 1 1 true] (H ++ [.cells 0 false [.int .i64 x]]) = some (v', H') ∧ OwnI nl P H' v' (xs ++ [x]) ∧ (∀ b, b < P → H'[b]? = H[b]?) ∧ H.length + 1 ≤ H'.length ∧ (∀ b, b < H.length → blkOf v ≠ some b → H'[b]? = H[b]?) ∧ (∀ b, blkOf v' = some b → blkOf v = some b ∨ H.length < b) := by
  obtain ⟨v', H', h1, h2, h3, h4, h5⟩ := Own.app1 (bytes := 8) (x := [.int .i64 x]) h rfl rfl hP (by omega)
  exact ⟨v', H', h1, by simpa [OwnI, cI_append, cI] using h2, fun b hb => h3 b (by omega) (fun e => by have := (h.blk e).1; omega), h4, h3, h5⟩
theorem OwnE.app1 {v : AV} {es : List Ed} (h : OwnE nl P H v es) (x y : Int) (hP : P ≤ H.length) (hn : es.length < 1000000000000) :
    ∃ v' H', xstep (.app 2 16) [v, .sl H.length 0 0 1 2 1 true] (H ++ [.cells 0 false [.int .i64 x, .int .i64 y]]) = some (v', H') ∧ OwnE nl P H' v' (es ++ [(x, y)]) ∧ (∀ b, b < P → H'[b]? = H[b]?) ∧ H.length + 1 ≤ H'.length ∧ (∀ b, b < H.length → blkOf v ≠ some b → H'[b]? = H[b]?) ∧ (∀ b, blkOf v' = some b → blkOf v = some b ∨ H.length < b) := by
  obtain ⟨v', H', h1, h2, h3, h4, h5⟩ := Own.app1 (bytes := 16) (x := [.int .i64 x, .int .i64 y]) h rfl rfl hP (by omega)
  refine ⟨v', H', h1, ?_, fun b hb => h3 b (by omega) (fun e => by have := (h.blk e).1; omega), h4, h3, h5⟩
  rw [OwnE, cellsE_append]; simpa [cellsE] using h2
theorem OwnI.view {v : AV} {xs : List Int} (h : OwnI nl P H v xs) : Go.Ai.viewR H v = some (rv nl xs.length 1 (cI xs)) := Own.viewR h (closeds_cI xs)
theorem OwnE.view {v : AV} {xs : List Ed} (h : OwnE nl P H v xs) : Go.Ai.viewR H v = some (rv nl xs.length 2 (cellsE xs)) := Own.viewR h (closeds_cE xs)
theorem rv_false (n sz : Nat) (c : List AV) : rv false n sz c = .vs n sz c := by simp [rv]
theorem OwnI.viewA1 {v : AV} {xs : List Int} (h : OwnI nl P H v xs) : ∃ H', viewA H [v] = some ([rv nl xs.length 1 (cI xs)], H') ∧ H'.length = H.length ∧ (∀ b, blkOf v ≠ some b → H'[b]? = H[b]?) := Own.viewA (pre := []) (post := []) h (closeds_cI xs) rfl rfl
theorem OwnE.viewA1 {v : AV} {xs : List Ed} (h : OwnE nl P H v xs) : ∃ H', viewA H [v] = some ([rv nl xs.length 2 (cellsE xs)], H') ∧ H'.length = H.length ∧ (∀ b, blkOf v ≠ some b → H'[b]? = H[b]?) := Own.viewA (pre := []) (post := []) h (closeds_cE xs) rfl rfl
theorem eqS2 (x y : Ed) : eqScs [1, 1] [.int .i64 x.1, .int .i64 x.2] [.int .i64 y.1, .int .i64 y.2] = some (decide (x = y)) := by
  obtain ⟨a, b⟩ := x
  obtain ⟨c, d⟩ := y
  by_cases h1 : a = c <;> by_cases h2 : b = d <;> simp only [eqScs, eqSc] <;> simp [int_beq, h1, h2]
theorem part_bool (b : Bool) : AV.part (.bool b) = true := Eq.trans rfl rfl
theorem part_int (k : IntKind) (n : Int) : AV.part (.int k n) = true := Eq.trans rfl rfl
theorem part_str (s : ByteArray) : AV.part (.str s) = true := Eq.trans rfl rfl
theorem part_nilp  : AV.part (.nilp ) = true := Eq.trans rfl rfl
theorem part_ptr (b g o : Nat) : AV.part (.ptr b g o) = true := Eq.trans rfl rfl
theorem part_nils  : AV.part (.nils ) = true := Eq.trans rfl rfl
theorem part_sl (b g o n sz cl : Nat) (ex : Bool) : AV.part (.sl b g o n sz cl ex) = true := Eq.trans rfl rfl
theorem part_nilm  : AV.part (.nilm ) = true := Eq.trans rfl rfl
theorem part_mp (b : Nat) : AV.part (.mp b) = true := Eq.trans rfl rfl
theorem part_nilf  : AV.part (.nilf ) = true := Eq.trans rfl rfl
theorem part_fn (f : Fn) (x y : List AV) : AV.part (.fn f x y) = true := Eq.trans rfl rfl
theorem part_nili  : AV.part (.nili ) = true := Eq.trans rfl rfl
theorem part_iface (t : TypeId) (v : AV) : AV.part (.iface t v) = true := Eq.trans rfl rfl
theorem part_agg (xs : List AV) : AV.part (.agg xs) = true := Eq.trans rfl rfl
theorem part_vs (n sz : Nat) (xs : List AV) : AV.part (.vs n sz xs) = true := Eq.trans rfl rfl
theorem part_vp (xs : List AV) (o : Nat) : AV.part (.vp xs o) = true := Eq.trans rfl rfl
theorem gz {α : Type} (a : α) (l : List α) : (a :: l)[0]? = some a := Eq.trans rfl rfl
theorem set_last (H : Heap) (a b : Ob) : (H ++ [a]).set H.length b = H ++ [b] := by simp
theorem get_last (H : Heap) (a : Ob) : (H ++ [a])[H.length]? = some a := by simp
theorem get_more {H : Heap} {b : Nat} {x : Ob} (J : Heap) (h : H[b]? = some x) : (H ++ J)[b]? = some x := by rw [List.getElem?_append_left (lt_of_get h)]; exact h
theorem wrap_0 : IntKind.i64.wrap 0 = 0 := by decide
theorem wrap_1 : IntKind.i64.wrap 1 = 1 := by decide
theorem wrap_2 : IntKind.i64.wrap 2 = 2 := by decide
theorem wrap_m1 : IntKind.i64.wrap (-1) = -1 := by decide
theorem wrap1 {i n : Nat} (h : i < n) (hn : n < 4611686018427387904) : IntKind.i64.wrap ((i : Int) + 1) = ((i + 1 : Nat) : Int) := by rw [wrap_in (by omega) (by omega)]; omega
theorem minV_i (a b : Int) : minV (.int .i64 a) (.int .i64 b) = some (.int .i64 (min a b)) := by
  simp only [minV, if_true]; congr 2; simp only [Int.min_def]; split <;> split <;> omega
theorem maxV_i (a b : Int) : maxV (.int .i64 a) (.int .i64 b) = some (.int .i64 (max a b)) := by
  simp only [maxV, if_true]; congr 2; simp only [Int.max_def]; split <;> split <;> omega
end Go.Ai
/- Classes of numbers below k, told in order. -/
namespace Go.Ai
set_option linter.unusedVariables false
/-- The class of x among the numbers below k. -/
def gcl (r : Nat → Nat) (k : Nat) (x : Int) : List Int := ((List.range k).filter fun i => decide ((r i : Int) = x)).map fun (i : Nat) => (i : Int)
theorem gcl_snoc (r : Nat → Nat) (k : Nat) (x : Int) : gcl r (k + 1) x = gcl r k x ++ (if (r k : Int) = x then [(k : Int)] else []) := by
  simp only [gcl, List.range_succ, List.filter_append, List.map_append]
  congr 1
  by_cases h : (r k : Int) = x <;> simp [h]
theorem gcl_len (r : Nat → Nat) (k : Nat) (x : Int) : (gcl r k x).length ≤ k := by
  simp only [gcl, List.length_map]
  exact Nat.le_trans (List.length_filter_le _ _) (by simp)
theorem gcl_mem (r : Nat → Nat) (k : Nat) (x z : Int) : z ∈ gcl r k x ↔ ∃ i : Nat, i < k ∧ (r i : Int) = x ∧ z = (i : Int) := by
  simp only [gcl, List.mem_map, List.mem_filter, List.mem_range, decide_eq_true_eq]
  constructor
  · rintro ⟨i, ⟨h1, h2⟩, rfl⟩; exact ⟨i, h1, h2, rfl⟩
  · rintro ⟨i, h1, h2, rfl⟩; exact ⟨i, ⟨h1, h2⟩, rfl⟩
theorem gcl_sorted (r : Nat → Nat) (k : Nat) (x : Int) : (gcl r k x).Pairwise (· < ·) := by
  unfold gcl
  rw [List.pairwise_map]
  exact ((List.pairwise_lt_range (n := k)).filter _).imp fun h => by omega
/-- The least of a class; what is none's own. -/
def ghd (l : List Int) : Int := l.headD 0
theorem ghd_mem {l : List Int} (h : l ≠ []) : ghd l ∈ l := by
  cases l with
  | nil => exact absurd rfl h
  | cons a l => simp [ghd]
/-- The classes, by their least ones. -/
def cls (r : Nat → Nat) (k : Nat) : List (List Int) := ((List.range k).filter fun i => decide (ghd (gcl r k (r i)) = (i : Int))).map fun i => gcl r k (r i)
theorem strictI_unique : ∀ {l m : List Int}, l.Pairwise (· < ·) → m.Pairwise (· < ·) → (∀ x, x ∈ l ↔ x ∈ m) → l = m
  | [], [], _, _, _ => rfl
  | [], y :: m, _, _, h => by have := (h y).2 (by simp); simp at this
  | x :: l, [], _, _, h => by have := (h x).1 (by simp); simp at this
  | x :: l, y :: m, hl, hm, h => by
    rw [List.pairwise_cons] at hl hm
    have hxy : x = y := by
      have h1 := (h x).1 (by simp)
      have h2 := (h y).2 (by simp)
      rcases List.mem_cons.1 h1 with h1 | h1
      · exact h1
      · rcases List.mem_cons.1 h2 with h2 | h2
        · exact h2.symm
        · have := hm.1 x h1; have := hl.1 y h2; omega
    subst hxy
    congr 1
    refine strictI_unique hl.2 hm.2 fun z => ?_
    constructor
    · intro hz
      have := hl.1 z hz
      rcases List.mem_cons.1 ((h z).1 (List.mem_cons_of_mem _ hz)) with e | e
      · omega
      · exact e
    · intro hz
      have := hm.1 z hz
      rcases List.mem_cons.1 ((h z).2 (List.mem_cons_of_mem _ hz)) with e | e
      · omega
      · exact e
theorem gcl_of_mem {r : Nat → Nat} {k : Nat} {x z : Int} (h : z ∈ gcl r k x) : gcl r k (r z.toNat) = gcl r k x := by
  obtain ⟨i, _, h2, rfl⟩ := (gcl_mem _ _ _ _).1 h
  have : ((i : Int)).toNat = i := by omega
  rw [this, h2]
/-- Keys that are told in the order of their classes' least ones tell the classes. -/
theorem cls_of {r : Nat → Nat} {k : Nat} {xs : List Int} (hx : ∀ x, x ∈ xs ↔ gcl r k x ≠ []) (hs : xs.Pairwise fun x y => ghd (gcl r k x) < ghd (gcl r k y)) : xs.map (gcl r k) = cls r k := by
  have e1 : xs.map (fun x => ghd (gcl r k x)) = ((List.range k).filter fun i => decide (ghd (gcl r k (r i)) = (i : Int))).map fun (i : Nat) => (i : Int) := by
    refine strictI_unique ?_ ?_ fun z => ?_
    · rw [List.pairwise_map]; exact hs
    · rw [List.pairwise_map]
      exact ((List.pairwise_lt_range (n := k)).filter _).imp fun h => by omega
    · simp only [List.mem_map, List.mem_filter, List.mem_range, decide_eq_true_eq]
      constructor
      · rintro ⟨x, h1, rfl⟩
        have hm := ghd_mem ((hx x).1 h1)
        have he := gcl_of_mem hm
        obtain ⟨i, h2, h3, h4⟩ := (gcl_mem _ _ _ _).1 hm
        refine ⟨i, ⟨h2, ?_⟩, h4.symm⟩
        rw [h3, h4]
      · rintro ⟨i, ⟨h1, h2⟩, rfl⟩
        refine ⟨(r i : Int), (hx _).2 ?_, h2⟩
        intro h
        have : (i : Int) ∈ gcl r k (r i) := (gcl_mem _ _ _ _).2 ⟨i, h1, rfl, rfl⟩
        rw [h] at this; simp at this
  have e2 : xs.map (gcl r k) = (xs.map (fun x => ghd (gcl r k x))).map fun z => gcl r k (r z.toNat) := by
    rw [List.map_map]
    refine List.map_congr_left fun x h1 => ?_
    simp only [Function.comp]
    exact (gcl_of_mem (ghd_mem ((hx x).1 h1))).symm
  rw [e2, e1, List.map_map]
  unfold cls
  refine List.map_congr_left fun i _ => ?_
  simp only [Function.comp]
  rw [show ((i : Int)).toNat = i by omega]
end Go.Ai
/- Numbers that lead to their class's own: the ways get shorter. -/
namespace Go.Ai
set_option linter.unusedVariables false
def upn (up : List Int) (i : Nat) : Nat := (up.getD i 0).toNat
/-- The way to a class's own number, and what is left behind; at most so many steps. -/
def topF : Nat → List Int → Nat → Nat × List Int
  | 0, up, a => (a, up)
  | f + 1, up, a => if upn up a = a then (a, up) else topF f (up.set a (upn up (upn up a) : Int)) (upn up (upn up a))
/-- The numbers lead to r; d falls on the way. -/
structure Dec (N : Nat) (r : Nat → Nat) (up : List Int) (d : Nat → Nat) : Prop where
  len : up.length = N
  nn : ∀ i, i < N → up[i]? = some ((upn up i : Nat) : Int)
  lt : ∀ i, i < N → upn up i < N
  cls : ∀ i, i < N → r (upn up i) = r i
  fix : ∀ i, i < N → (upn up i = i ↔ r i = i)
  rlt : ∀ i, i < N → r i < N
  rr : ∀ i, i < N → r (r i) = r i
  dec : ∀ i, i < N → upn up i ≠ i → d (upn up i) < d i
theorem upn_set {up : List Int} {a : Nat} (c : Nat) (ha : a < up.length) (i : Nat) : upn (up.set a (c : Int)) i = if i = a then c else upn up i := by
  unfold upn
  rw [List.getD_eq_getElem?_getD, List.getElem?_set]
  by_cases h : i = a
  · subst h; rw [if_pos rfl, if_pos rfl, if_pos ha]; simp
  · rw [if_neg (fun e => h e.symm), if_neg h, List.getD_eq_getElem?_getD]
theorem Dec.step {N : Nat} {r : Nat → Nat} {up : List Int} {d : Nat → Nat} (h : Dec N r up d) {a : Nat} (ha : a < N) (hne : upn up a ≠ a) : Dec N r (up.set a (upn up (upn up a) : Int)) d ∧ upn up (upn up a) < N ∧ d (upn up (upn up a)) < d a ∧ r (upn up (upn up a)) = r a := by
  have hb := h.lt a ha
  have hc := h.lt _ hb
  have hd1 := h.dec a ha hne
  have hd2 : d (upn up (upn up a)) ≤ d (upn up a) := by
    by_cases e : upn up (upn up a) = upn up a
    · rw [e]; exact Nat.le_refl _
    · exact Nat.le_of_lt (h.dec _ hb e)
  have hr : r (upn up (upn up a)) = r a := (h.cls _ hb).trans (h.cls a ha)
  have hcne : upn up (upn up a) ≠ a := fun e => by rw [e] at hd2; omega
  have hs := fun i => upn_set (upn up (upn up a)) (by rw [h.len]; exact ha) i
  refine ⟨⟨by rw [List.length_set]; exact h.len, fun i hi => ?_, fun i hi => ?_, fun i hi => ?_, fun i hi => ?_, h.rlt, h.rr, fun i hi hn => ?_⟩, hc, by omega, hr⟩
  · rw [hs, List.getElem?_set]
    by_cases e : i = a
    · subst e; rw [if_pos rfl, if_pos rfl, if_pos (by rw [h.len]; exact hi)]
    · rw [if_neg (fun x => e x.symm), if_neg e]; exact h.nn i hi
  · rw [hs]; split
    · exact hc
    · exact h.lt i hi
  · rw [hs]; split
    · rename_i e; subst e; exact hr
    · exact h.cls i hi
  · rw [hs]; split
    · rename_i e; subst e
      constructor
      · intro e; exact absurd e hcne
      · intro e; exact absurd ((h.fix _ hi).2 e) hne
    · exact h.fix i hi
  · rw [hs] at hn ⊢
    split
    · rename_i e; subst e; omega
    · rename_i e; rw [if_neg e] at hn; exact h.dec i hi hn
theorem topF_spec {N : Nat} {r : Nat → Nat} {d : Nat → Nat} : ∀ (f : Nat) {up : List Int} {a : Nat}, Dec N r up d → a < N → d a ≤ f → (topF f up a).1 = r a ∧ Dec N r (topF f up a).2 d
  | 0, up, a, h, ha, hf => by
    have : r a = a := by
      refine (h.fix a ha).1 (Decidable.byContradiction fun e => ?_)
      have := h.dec a ha e
      omega
    exact ⟨this.symm, h⟩
  | f + 1, up, a, h, ha, hf => by
    rw [topF]
    by_cases e : upn up a = a
    · rw [if_pos e]; exact ⟨((h.fix a ha).1 e).symm, h⟩
    · rw [if_neg e]
      obtain ⟨h1, h2, h3, h4⟩ := h.step ha e
      obtain ⟨k1, k2⟩ := topF_spec f h1 h2 (by omega)
      exact ⟨k1.trans h4, k2⟩
theorem topF_stop {f : Nat} {up : List Int} {a : Nat} (e : upn up a = a) : topF f up a = (a, up) := by
  cases f with
  | zero => rfl
  | succ f => rw [topF, if_pos e]
end Go.Ai
/- Rows as values: what is read of them, and what is frozen then. -/
namespace Go.Ai
set_option linter.unusedVariables false
set_option linter.unusedSimpArgs false
/-- A slice that reads as this row, whoever may write it. -/
def Vw (nl : Bool) (H : Heap) (v : AV) (sz n : Nat) (c : List AV) : Prop :=
  (n = 0 ∧ c = [] ∧ if nl = true then v = .nils else ∃ b g o, v = .sl b g o 0 sz 0 true) ∨ (0 < n ∧ ∃ b g cl ex ro, v = .sl b g 0 n sz cl ex ∧ c.length = n * sz ∧ H[b]? = some (.cells g ro c))
variable {nl : Bool} {P : Nat} {H : Heap} {v : AV} {sz n : Nat} {c : List AV}
theorem Own.vw (h : Own nl P H v sz n c) : Vw nl H v sz n c := by
  rcases h with h | ⟨h0, b, g, ex, rfl, _, h1, h2⟩
  · exact .inl h
  · exact .inr ⟨h0, b, g, n, ex, false, rfl, h1, h2⟩
/-- The memory, this row frozen. -/
def frzOf (H : Heap) (v : AV) : Heap := match blkOf v with
  | none => H
  | some b => frzH [b] H
theorem frzOf_len (H : Heap) (v : AV) : (frzOf H v).length = H.length := by
  unfold frzOf
  split
  · rfl
  · exact frzH_len _ _
theorem frzOf_get (H : Heap) (v : AV) {b : Nat} (hb : blkOf v ≠ some b) : (frzOf H v)[b]? = H[b]? := by
  unfold frzOf
  split
  · rfl
  · rename_i b' he
    simp only [frzH]
    split
    · exact List.getElem?_set_ne (fun e => hb (by rw [he, e]))
    · rfl
theorem Vw.reach (h : Vw nl H v sz n c) (hc : AV.closeds c = true) (k : Nat) : reachV H (k + 1) v = (blkOf v).toList := by
  rcases h with ⟨rfl, rfl, h⟩ | ⟨h0, b, g, cl, ex, ro, rfl, h1, h2⟩
  · cases nl
    · obtain ⟨b, g, o, rfl⟩ := h
      rw [reachV_sl0]; simp [blkOf]
    · have : v = .nils := h
      subst this
      rw [reachV_closed _ rfl]; rfl
  · rw [reachV_sl _ _ _ _ _ _ _ _ _ _ _ h2 (by omega) hc]
    simp only [blkOf]; rw [if_neg (by omega)]; rfl
theorem frzH_toList (H : Heap) (v : AV) : frzH (blkOf v).toList H = frzOf H v := by
  unfold frzOf
  cases blkOf v <;> rfl
theorem Vw.frz (h : Vw nl H v sz n c) : Vw nl (frzOf H v) v sz n c ∧ frzOf (frzOf H v) v = frzOf H v ∧ ∀ b g o cl ex, v = .sl b g o n sz cl ex → 0 < n → (frzOf H v)[b]? = some (.cells g true c) := by
  rcases h with h | ⟨h0, b, g, cl, ex, ro, rfl, h1, h2⟩
  · obtain ⟨rfl, rfl, h⟩ := h
    refine ⟨.inl ⟨rfl, rfl, h⟩, ?_, fun _ _ _ _ _ _ h => by omega⟩
    have : blkOf v = none := by
      cases nl
      · obtain ⟨b, g, o, rfl⟩ := h; simp [blkOf]
      · have : v = .nils := h
        subst this; rfl
    unfold frzOf; rw [this]
  · have hb : blkOf (.sl b g 0 n sz cl ex) = some b := by simp only [blkOf]; rw [if_neg (by omega)]
    have hf : (frzOf H (.sl b g 0 n sz cl ex))[b]? = some (.cells g true c) := by
      unfold frzOf
      rw [hb]
      cases ro
      · simp only [frzH_cons _ _ _ _ h2, frzH_nil]; exact List.getElem?_set_self (lt_of_get h2)
      · simp only [frzH_ro _ _ _ _ h2, frzH_nil]; exact h2
    refine ⟨.inr ⟨h0, b, g, cl, ex, true, rfl, h1, hf⟩, ?_, fun b' g' o' cl' ex' e _ => by cases e; exact hf⟩
    have e : ∀ K : Heap, frzOf K (.sl b g 0 n sz cl ex) = frzH [b] K := by intro K; unfold frzOf; rw [hb]
    rw [e (frzOf H _), frzH_ro _ _ _ _ hf, frzH_nil]
theorem Vw.seen (h : Vw nl H v sz n c) (hc : AV.closeds c = true) (k : Nat) : viewV (frzOf H v) (k + 2) v = some (rv nl n sz c) := by
  obtain ⟨_, _, hf⟩ := h.frz
  rcases h with ⟨rfl, rfl, h⟩ | ⟨h0, b, g, cl, ex, ro, rfl, h1, h2⟩
  · cases nl
    · obtain ⟨b, g, o, rfl⟩ := h
      rw [viewV_sl0]; simp [rv]
    · have : v = .nils := h
      subst this
      rw [viewV_closed _ rfl]; simp [rv]
  · have hb := hf b g 0 cl ex rfl h0
    rw [viewV_sl (c := c) _ _ _ _ _ _ _ _ hb (by omega) (by omega) hc]
    simp [rv, show ¬ n = 0 by omega, ← h1]
theorem reachL_mid {x : AV} {post : List AV} (h2 : AV.closeds post = true) (k : Nat) : ∀ (l : List AV), AV.closeds l = true → reachL H (k + 2) (l ++ x :: post) = reachV H (k + 1) x
  | [], _ => by rw [List.nil_append, reachL_cons, reachL_closed _ h2, List.append_nil]
  | y :: l, hl => by
    simp only [closeds_cons, Bool.and_eq_true] at hl
    rw [List.cons_append, reachL_cons, reachL_mid h2 k l hl.2, reachV_closed _ hl.1, List.nil_append]
theorem viewL_mid {x r : AV} {post : List AV} (h2 : AV.closeds post = true) (k : Nat) (hr : viewV H (k + 1) x = some r) : ∀ (l : List AV), AV.closeds l = true → viewL H (k + 2) (l ++ x :: post) = some (l ++ r :: post)
  | [], _ => by rw [List.nil_append, viewL_cons, hr, viewL_closed _ h2]; rfl
  | y :: l, hl => by
    simp only [closeds_cons, Bool.and_eq_true] at hl
    rw [List.cons_append, viewL_cons, viewL_mid h2 k hr l hl.2, viewV_closed _ hl.1]; rfl
/-- As an argument. -/
theorem Vw.va (h : Vw nl H v sz n c) (hc : AV.closeds c = true) (pre post : List AV) (h1 : AV.closeds pre = true) (h2 : AV.closeds post = true) : viewA H (pre ++ v :: post) = some (pre ++ rv nl n sz c :: post, frzOf H v) := by
  rw [viewA_def]
  rw [show fuelV = 10 + 2 from rfl, reachL_mid h2 10 pre h1, h.reach hc, frzH_toList, viewL_mid h2 10 (h.seen hc 9) pre h1]
  rfl
/-- As a part of a struct that is an argument. -/
theorem Vw.vag (h : Vw nl H v sz n c) (hc : AV.closeds c = true) (pre post p q : List AV) (h1 : AV.closeds pre = true) (h2 : AV.closeds post = true) (h3 : AV.closeds p = true) (h4 : AV.closeds q = true) :
    viewA H (p ++ .agg (pre ++ v :: post) :: q) = some (p ++ .agg (pre ++ rv nl n sz c :: post) :: q, frzOf H v) := by
  rw [viewA_def]
  rw [show fuelV = 10 + 2 from rfl, reachL_mid h4 10 p h3, reachV_agg, show (10 : Nat) = 8 + 2 from rfl, reachL_mid h2 8 pre h1, h.reach hc, frzH_toList]
  rw [viewL_mid (r := .agg (pre ++ rv nl n sz c :: post)) h4 (8 + 2) (by rw [show (8 + 2 + 1 : Nat) = 9 + 2 from rfl, viewV_agg, show (9 + 1 : Nat) = 8 + 2 from rfl, viewL_mid h2 8 (h.seen hc 7) pre h1]; rfl) p h3]
  rfl
/-- As an answer. -/
theorem Vw.vr (h : Vw nl H v sz n c) (hc : AV.closeds c = true) : viewR H v = some (rv nl n sz c) := by
  rw [viewR_def]
  rw [show fuelV = 11 + 1 from rfl, h.reach hc, frzH_toList, show (11 + 1 : Nat) = 10 + 2 from rfl, h.seen hc]
/-- A graph as an argument. -/
theorem Vw.g1 (h : Vw nl H v sz n c) (hc : AV.closeds c = true) (k : Int) : viewA H [.agg [.int .i64 k, v]] = some ([.agg [.int .i64 k, rv nl n sz c]], frzOf H v) := h.vag hc [.int .i64 k] [] [] [] rfl rfl rfl rfl
theorem Vw.g2 (h : Vw nl H v sz n c) (hc : AV.closeds c = true) (k : Int) (x : AV) (hx : x.closed = true) : viewA H [.agg [.int .i64 k, v], x] = some ([.agg [.int .i64 k, rv nl n sz c], x], frzOf H v) := h.vag hc [.int .i64 k] [] [] [x] rfl rfl rfl (by rw [closeds_cons, hx]; rfl)
theorem Vw.g3 (h : Vw nl H v sz n c) (hc : AV.closeds c = true) (k : Int) (x y : AV) (hx : x.closed = true) (hy : y.closed = true) : viewA H [.agg [.int .i64 k, v], x, y] = some ([.agg [.int .i64 k, rv nl n sz c], x, y], frzOf H v) := h.vag hc [.int .i64 k] [] [] [x, y] rfl rfl rfl (by rw [closeds_cons, closeds_cons, hx, hy]; rfl)
theorem Vw.l1 (h : Vw nl H v sz n c) (hc : AV.closeds c = true) : viewA H [v] = some ([rv nl n sz c], frzOf H v) := h.va hc [] [] rfl rfl
theorem Vw.l2 (h : Vw nl H v sz n c) (hc : AV.closeds c = true) (x : AV) (hx : x.closed = true) : viewA H [v, x] = some ([rv nl n sz c, x], frzOf H v) := h.va hc [] [x] rfl (by rw [closeds_cons, hx]; rfl)
theorem Vw.r2 (h : Vw nl H v sz n c) (hc : AV.closeds c = true) (x : AV) (hx : x.closed = true) : viewA H [x, v] = some ([x, rv nl n sz c], frzOf H v) := h.va hc [x] [] (by rw [closeds_cons, hx]; rfl) rfl
theorem Vw.one (h : Vw nl H v sz n c) : v.one = true := by
  rcases h with ⟨rfl, rfl, h⟩ | ⟨h0, b, g, cl, ex, ro, rfl, _⟩
  · cases nl
    · obtain ⟨b, g, o, rfl⟩ := h; rfl
    · have : v = .nils := h
      subst this; rfl
  · rfl
theorem Vw.cells (h : Vw nl H v sz n c) : v.cells = [v] := by
  rcases h with ⟨rfl, rfl, h⟩ | ⟨h0, b, g, cl, ex, ro, rfl, _⟩
  · cases nl
    · obtain ⟨b, g, o, rfl⟩ := h; rfl
    · have : v = .nils := h
      subst this; rfl
  · rfl
theorem Vw.len (h : Vw nl H v sz n c) (rd : Nat → Option Ob) : nstep .lenS [v] rd = some (.val (.int .i64 n)) := by
  rcases h with ⟨rfl, rfl, h⟩ | ⟨h0, b, g, cl, ex, ro, rfl, _⟩
  · cases nl
    · obtain ⟨b, g, o, rfl⟩ := h; rfl
    · have : v = .nils := h
      subst this; rfl
  · rfl
theorem Vw.keep {H' : Heap} (h : Vw nl H v sz n c) (hk : ∀ b, blkOf v = some b → H'[b]? = H[b]?) : Vw nl H' v sz n c := by
  rcases h with h | ⟨h0, b, g, cl, ex, ro, rfl, h1, h2⟩
  · exact .inl h
  · exact .inr ⟨h0, b, g, cl, ex, ro, rfl, h1, by rw [hk b (by simp only [blkOf]; rw [if_neg (by omega)])]; exact h2⟩
/-- Where an element lies. -/
theorem Vw.at (h : Vw nl H v sz n c) {i : Nat} (hi : i < n) : ∃ b g ro, (∀ (k : IntKind) rd, nstep (.idx sz) [v, .int k (i : Int)] rd = some (.val (.ptr b g (i * sz)))) ∧ H[b]? = some (.cells g ro c) ∧ blkOf v = some b := by
  rcases h with ⟨rfl, rfl, h⟩ | ⟨h0, b, g, cl, ex, ro, rfl, h1, hb⟩
  · omega
  · refine ⟨b, g, ro, fun k rd => ?_, hb, by simp only [blkOf]; rw [if_neg (by omega)]⟩
    rw [n_idx, if_pos ⟨by omega, by omega⟩]; simp
end Go.Ai
namespace Go.Ai.G
open Go.Ai
set_option maxRecDepth 100000
set_option linter.unusedSimpArgs false
set_option linter.unusedVariables false
variable {A : AProg} {φ : Nat → Nat}
attribute [local simp ↓] getD_z getD_s hid_k hid_o hid_q hid_v PO_nil PO_none PO_grd PD_nil PD_none PD_grd PDO_N PDO_X PDO_call PDO_calli PDO_callv PStep_N PStep_X PStep_call PStep_calli PC_skip PC_lab
  PC_ret PC_exit PC_reg PC_draw PC_seq PC_block PC_loop PC_scope PC_cond thenC_norm thenC_ret thenC_exit blockC_norm blockC_ret blockC_exit loopC_norm loopC_ret loopC_exit endR_ret
  endR_norm
attribute [local simp] gz PDX_free PDX_eq PStep_callv resK_none resK_t resK_tt KNO_val KNO_new KNO_ite KNO_map KXO_some KXO_ite KVA_t KVA_f KG_skip KG_tt KG_ff KG_tf KG_ft KB_true KB_false KNOD_val
  KNOD_new KNOD_ite n_mv n_pick n_bin n_eqB n_eqN n_eqS n_un n_conv n_fadd n_faddV n_fld1 n_fldN n_idx n_idxA n_idxV n_idxAV n_ext n_lenS n_lenS0 n_lenV n_lenT n_lenA n_min n_max
  n_build n_mkfn n_slc n_slc0 n_slcV n_slcA n_load1 n_loadN n_load1V n_loadNV n_alloc n_box n_bsl n_mksl n_nilcP n_nilcV n_nilcI n_nilcF x_store x_clear0 x_clear b_add b_sub b_mul
  b_eql b_neq b_lss b_leq b_gtr b_geq b_and16 unV ntouch gather hide unhide evalOpd applyOuts int_bne int_beq ite_bool ite_int one_bool cells_bool one_int cells_int one_str cells_str
  one_nilp cells_nilp one_ptr cells_ptr one_nils cells_nils one_sl cells_sl one_nilf cells_nilf one_fn cells_fn one_nili cells_nili one_mp cells_mp one_nilm cells_nilm one_iface
  cells_iface one_vs cells_vs one_vp cells_vp cells_agg Nat.testBit setAt_1 setAt_2 closeds_nil closeds_cons closed_bool closed_int closed_str closed_nilp closed_nils closed_nilm
  closed_nilf closed_nili closed_agg closed_tup closed_vs closed_vp closed_iface closed_fn closeds_cI closeds_cE viewA_closed viewR_closed AV.scal AV.scal0 fillA repA part_bool
  part_int part_str part_nilp part_ptr part_nils part_sl part_nilm part_mp part_nilf part_fn part_nili part_iface part_agg part_vs part_vp viewA_sl1 vaSl_cells wrap_0 wrap_1 wrap_2
  wrap_m1 set_last get_last
theorem er37_0 (φ : Nat → Nat) : r37_0 φ = [
  ⟨0, .N .mv, [.c (.bool false)], none, 0⟩] := Eq.trans rfl rfl
theorem er37_1 (φ : Nat → Nat) : r37_1 φ = [
  ⟨0, .N .mv, [.n 0], none, 0⟩,
  ⟨1, .N .mv, [.n 0], none, 0⟩,
  ⟨2, .N (.bin .neq), [.l 1, .l 0], none, 0⟩,
  ⟨3, .N .mv, [.l 0], none, 0⟩] := Eq.trans rfl rfl
theorem er35_0 (φ : Nat → Nat) : r35_0 φ = [
  ⟨0, .N .mv, [.c (.int .i64 0)], none, 0⟩] := Eq.trans rfl rfl
theorem er35_1 (φ : Nat → Nat) : r35_1 φ = [
  ⟨0, .N .mv, [.n 0], none, 0⟩,
  ⟨1, .calli true (φ 37), [.l 0], none, 0⟩,
  ⟨2, .N .mv, [.l 0], none, 0⟩] := Eq.trans rfl rfl
theorem er35_2 (φ : Nat → Nat) : r35_2 φ = [
  ⟨0, .N .mv, [.n 1], none, 0⟩,
  ⟨1, .calli true (φ 37), [.l 0], none, 0⟩,
  ⟨2, .N .mv, [.l 0], none, 0⟩] := Eq.trans rfl rfl
theorem er35_3 (φ : Nat → Nat) : r35_3 φ = [
  ⟨0, .N .mv, [.n 3], none, 0⟩] := Eq.trans rfl rfl
theorem er35_4 (φ : Nat → Nat) : r35_4 φ = [
  ⟨0, .N .mv, [.n 4], none, 0⟩] := Eq.trans rfl rfl
theorem er35_5 (φ : Nat → Nat) : r35_5 φ = [
  ⟨0, .N .mv, [.c (.int .i64 0)], none, 0⟩] := Eq.trans rfl rfl
theorem er35_6 (φ : Nat → Nat) : r35_6 φ = [
  ⟨0, .N .mv, [.c (.int .i64 (-1))], none, 0⟩] := Eq.trans rfl rfl
theorem er35_7 (φ : Nat → Nat) : r35_7 φ = [
  ⟨0, .N .mv, [.n 4], none, 0⟩] := Eq.trans rfl rfl
theorem er35_8 (φ : Nat → Nat) : r35_8 φ = [
  ⟨0, .N .mv, [.c (.int .i64 1)], none, 0⟩] := Eq.trans rfl rfl
theorem er35_9 (φ : Nat → Nat) : r35_9 φ = [
  ⟨0, .N .mv, [.n 0], none, 0⟩,
  ⟨1, .N .mv, [.n 1], none, 0⟩,
  ⟨2, .N (.bin .lss), [.l 1, .l 0], none, 0⟩] := Eq.trans rfl rfl
theorem er35_10 (φ : Nat → Nat) : r35_10 φ = [
  ⟨0, .N .mv, [.c (.int .i64 (-1))], none, 0⟩] := Eq.trans rfl rfl
theorem er35_11 (φ : Nat → Nat) : r35_11 φ = [
  ⟨0, .N .mv, [.n 0], none, 0⟩,
  ⟨1, .N .mv, [.n 1], none, 0⟩,
  ⟨2, .N (.bin .gtr), [.l 1, .l 0], none, 0⟩] := Eq.trans rfl rfl
theorem er35_12 (φ : Nat → Nat) : r35_12 φ = [
  ⟨0, .N .mv, [.c (.int .i64 1)], none, 0⟩] := Eq.trans rfl rfl
theorem er35_13 (φ : Nat → Nat) : r35_13 φ = [
  ⟨0, .N .mv, [.c (.int .i64 0)], none, 0⟩] := Eq.trans rfl rfl
theorem er36_0 (φ : Nat → Nat) : r36_0 φ = [
  ⟨0, .N .mv, [.c (.int .i64 0)], none, 0⟩] := Eq.trans rfl rfl
theorem er36_1 (φ : Nat → Nat) : r36_1 φ = [
  ⟨0, .N .mv, [.c (.int .i64 0)], none, 0⟩] := Eq.trans rfl rfl
theorem er36_2 (φ : Nat → Nat) : r36_2 φ = [
  ⟨0, .N .mv, [.n 0], none, 0⟩,
  ⟨1, .N .lenS, [.l 0], none, 0⟩,
  ⟨2, .N .mv, [.c (.int .i64 0)], none, 0⟩] := Eq.trans rfl rfl
theorem er36_3 (φ : Nat → Nat) : r36_3 φ = [
  ⟨0, .N (.bin .lss), [.n 6, .n 5], none, 0⟩] := Eq.trans rfl rfl
theorem er36_4 (φ : Nat → Nat) : r36_4 φ = [
  ⟨0, .N (.idx 1), [.n 4, .n 6], none, 0⟩,
  ⟨1, .N .load1, [.l 0], none, 0⟩,
  ⟨2, .N .mv, [.l 0], none, 0⟩] := Eq.trans rfl rfl
theorem er36_5 (φ : Nat → Nat) : r36_5 φ = [
  ⟨0, .N .mv, [.n 3], none, 0⟩,
  ⟨1, .N .mv, [.n 2], none, 0⟩,
  ⟨2, .N (.bin .neq), [.l 1, .l 0], none, 0⟩] := Eq.trans rfl rfl
theorem er36_6 (φ : Nat → Nat) : r36_6 φ = [
  ⟨0, .N .mv, [.n 3], none, 0⟩,
  ⟨1, .N .mv, [.l 0], none, 0⟩] := Eq.trans rfl rfl
theorem er36_7 (φ : Nat → Nat) : r36_7 φ = [
  ⟨0, .N (.bin .add), [.n 6, .c (.int .i64 1)], none, 0⟩,
  ⟨1, .N .mv, [.l 0], none, 0⟩] := Eq.trans rfl rfl
theorem er36_9 (φ : Nat → Nat) : r36_9 φ = [
  ⟨0, .N .mv, [.n 2], none, 0⟩,
  ⟨1, .N .mv, [.l 0], none, 0⟩] := Eq.trans rfl rfl
theorem er31_0 (φ : Nat → Nat) : r31_0 φ = [
  ⟨0, .N .box, [.n 0], none, 0⟩,
  ⟨1, .N .box, [.n 1], none, 0⟩,
  ⟨2, .N .mv, [.c (.int .i64 0)], none, 0⟩] := Eq.trans rfl rfl
theorem er31_1 (φ : Nat → Nat) : r31_1 φ = [
  ⟨0, .N (.fadd 0), [.n 2], none, 0⟩,
  ⟨1, .N .load1, [.l 0], none, 1⟩,
  ⟨2, .N (.fadd 0), [.n 3], none, 0⟩,
  ⟨3, .N .load1, [.l 0], none, 4⟩,
  ⟨5, .N (.fadd 1), [.n 2], none, 0⟩,
  ⟨6, .N .load1, [.l 0], none, 16⟩,
  ⟨7, .N (.fadd 1), [.n 3], none, 0⟩,
  ⟨8, .N .load1, [.l 0], none, 64⟩,
  ⟨4, .calli true (φ 35), [.l 6, .l 4], none, 15⟩,
  ⟨9, .calli true (φ 35), [.l 3, .l 1], none, 511⟩,
  ⟨10, .N (.bsl [.int .i64 0] 2 1 [(0, 1), (1, 1)]), [.l 1, .l 0], none, 1023⟩,
  ⟨11, .calli true (φ 36), [.l 0], none, 2047⟩,
  ⟨12, .N .mv, [.l 0], none, 4095⟩] := Eq.trans rfl rfl
theorem er4_0 (φ : Nat → Nat) : r4_0 φ = [
  ⟨0, .N .box, [.n 0], none, 0⟩,
  ⟨1, .N .mv, [.c (.bool false)], none, 0⟩] := Eq.trans rfl rfl
theorem er4_1 (φ : Nat → Nat) : r4_1 φ = [
  ⟨0, .N (.fadd 0), [.n 1], none, 0⟩,
  ⟨1, .N .load1, [.l 0], none, 0⟩,
  ⟨2, .N (.bin .lss), [.l 0, .c (.int .i64 0)], none, 0⟩,
  ⟨3, .N .mv, [.l 0], none, 0⟩,
  ⟨4, .N (.fadd 0), [.n 1], some (.l 0, false), 0⟩,
  ⟨5, .N .load1, [.l 0], some (.l 1, false), 0⟩,
  ⟨6, .N (.bin .gtr), [.l 0, .c (.int .i64 1000)], some (.l 2, false), 0⟩,
  ⟨7, .N .pick, [.l 3, .c (.bool true), .l 0], none, 0⟩,
  ⟨8, .N .mv, [.l 0], none, 0⟩,
  ⟨9, .N (.fadd 1), [.n 1], some (.l 0, false), 0⟩,
  ⟨10, .N .load1, [.l 0], some (.l 1, false), 0⟩,
  ⟨11, .N .lenS, [.l 0], some (.l 2, false), 0⟩,
  ⟨12, .N (.bin .gtr), [.l 0, .c (.int .i64 4000)], some (.l 3, false), 0⟩,
  ⟨13, .N .pick, [.l 4, .c (.bool true), .l 0], none, 0⟩] := Eq.trans rfl rfl
theorem er4_2 (φ : Nat → Nat) : r4_2 φ = [
  ⟨0, .N .mv, [.c (.bool false)], none, 0⟩] := Eq.trans rfl rfl
theorem er4_3 (φ : Nat → Nat) : r4_3 φ = [
  ⟨0, .N (.fadd 1), [.n 1], none, 0⟩,
  ⟨1, .N .load1, [.l 0], none, 0⟩,
  ⟨2, .N .lenS, [.l 0], none, 0⟩,
  ⟨3, .N .mv, [.c (.int .i64 0)], none, 0⟩] := Eq.trans rfl rfl
theorem er4_4 (φ : Nat → Nat) : r4_4 φ = [
  ⟨0, .N (.bin .lss), [.n 8, .n 7], none, 0⟩] := Eq.trans rfl rfl
theorem er4_5 (φ : Nat → Nat) : r4_5 φ = [
  ⟨0, .N .mv, [.n 8], none, 0⟩,
  ⟨1, .N (.idx 2), [.n 6, .n 8], none, 0⟩,
  ⟨2, .N (.loadN 2), [.l 0], none, 0⟩,
  ⟨3, .N (.alloc [.int .i64 0, .int .i64 0]), [], none, 0⟩,
  ⟨4, .N .mv, [.l 3], none, 0⟩,
  ⟨5, .X (.store 2), [.l 1, .l 2], none, 0⟩] := Eq.trans rfl rfl
theorem er4_6 (φ : Nat → Nat) : r4_6 φ = [
  ⟨0, .N (.fadd 0), [.n 4], none, 0⟩,
  ⟨1, .N .load1, [.l 0], none, 1⟩,
  ⟨2, .N (.bin .lss), [.l 0, .c (.int .i64 0)], none, 3⟩,
  ⟨3, .N .mv, [.l 0], none, 7⟩,
  ⟨4, .N (.fadd 0), [.n 4], some (.l 0, false), 15⟩,
  ⟨5, .N .load1, [.l 0], some (.l 1, false), 31⟩,
  ⟨6, .N (.fadd 1), [.n 4], some (.l 2, false), 15⟩,
  ⟨7, .N .load1, [.l 0], some (.l 3, false), 79⟩,
  ⟨8, .N (.bin .geq), [.l 2, .l 0], some (.l 4, false), 255⟩,
  ⟨9, .N .pick, [.l 5, .c (.bool true), .l 0], none, 511⟩,
  ⟨10, .N .mv, [.l 0], none, 1023⟩,
  ⟨11, .N (.fadd 1), [.n 4], some (.l 0, false), 2047⟩,
  ⟨12, .N .load1, [.l 0], some (.l 1, false), 4095⟩,
  ⟨13, .N (.fadd 0), [.n 1], some (.l 2, false), 2047⟩,
  ⟨14, .N .load1, [.l 0], some (.l 3, false), 10239⟩,
  ⟨15, .N (.bin .geq), [.l 2, .l 0], some (.l 4, false), 32767⟩,
  ⟨16, .N .pick, [.l 5, .c (.bool true), .l 0], none, 65535⟩,
  ⟨17, .N .mv, [.l 0], none, 131071⟩,
  ⟨18, .N .mv, [.n 3], some (.l 0, false), 262143⟩,
  ⟨19, .N (.bin .gtr), [.l 0, .c (.int .i64 0)], some (.l 1, false), 524287⟩,
  ⟨20, .N .mv, [.l 0], some (.l 2, false), 1048575⟩,
  ⟨21, .N (.fadd 1), [.n 1], some (.l 0, true), 2097151⟩,
  ⟨22, .N .load1, [.l 0], some (.l 1, true), 4194303⟩,
  ⟨23, .N .mv, [.n 3], some (.l 2, true), 2097151⟩,
  ⟨24, .N (.bin .sub), [.l 0, .c (.int .i64 1)], some (.l 3, true), 10485759⟩,
  ⟨25, .N (.idx 2), [.l 2, .l 0], some (.l 4, true), 33554431⟩,
  ⟨26, .N (.loadN 2), [.l 0], some (.l 5, true), 67108863⟩,
  ⟨27, .N (.loadN 2), [.n 4], some (.l 6, true), 2097151⟩,
  ⟨28, .calli true (φ 31), [.l 1, .l 0], some (.l 7, true), 268435455⟩,
  ⟨29, .N (.bin .geq), [.l 0, .c (.int .i64 0)], some (.l 8, true), 536870911⟩,
  ⟨30, .N .pick, [.l 9, .l 0, .c (.bool false)], some (.l 12, false), 1073741823⟩,
  ⟨31, .N .pick, [.l 13, .c (.bool true), .l 0], none, 2147483647⟩] := Eq.trans rfl rfl
theorem er4_7 (φ : Nat → Nat) : r4_7 φ = [
  ⟨0, .N .mv, [.c (.bool false)], none, 0⟩] := Eq.trans rfl rfl
theorem er4_8 (φ : Nat → Nat) : r4_8 φ = [
  ⟨0, .N (.bin .add), [.n 8, .c (.int .i64 1)], none, 0⟩,
  ⟨1, .N .mv, [.l 0], none, 0⟩] := Eq.trans rfl rfl
theorem er4_10 (φ : Nat → Nat) : r4_10 φ = [
  ⟨0, .N .mv, [.c (.bool true)], none, 0⟩] := Eq.trans rfl rfl
theorem w_isNaN (h : Has A (φ 37) (f37 φ)) (x : Int) : PVal A (φ 37) [.int .i64 x] (.bool false) := by
  refine pval_has h rfl ?_
  simp only [b37, f37]
  simp [-List.getD_eq_getElem?_getD, -Int.ofNat_toNat, -getElem?_pos, er37_0, er37_1]
theorem w_cmp (h : Has A (φ 35) (f35 φ)) (h2 : Has A (φ 37) (f37 φ)) (x y : Int) : PVal A (φ 35) [.int .i64 x, .int .i64 y] (.int .i64 (cmpI x y)) := by
  refine pval_has h rfl ?_
  simp only [b35, f35]
  unfold cmpI
  by_cases h1 : x < y
  · simp [-List.getD_eq_getElem?_getD, -Int.ofNat_toNat, -getElem?_pos, er35_0, er35_1, er35_2, er35_3, er35_4, er35_5, er35_6, er35_7, er35_8, er35_9, er35_10, er35_11, er35_12, er35_13, (w_isNaN h2 x).eq, (w_isNaN h2 y).eq, h1]
  · by_cases h3 : y < x <;> simp [-List.getD_eq_getElem?_getD, -Int.ofNat_toNat, -getElem?_pos, er35_0, er35_1, er35_2, er35_3, er35_4, er35_5, er35_6, er35_7, er35_8, er35_9, er35_10, er35_11, er35_12, er35_13, (w_isNaN h2 x).eq, (w_isNaN h2 y).eq, h1, h3]
theorem w_Or (h : Has A (φ 36) (f36 φ)) (x y : Int) : PVal A (φ 36) [vI [x, y]] (.int .i64 (if x = 0 then y else x)) := by
  refine pval_has h rfl ?_
  simp only [l36_8, b36, f36]
  simp [-List.getD_eq_getElem?_getD, -Int.ofNat_toNat, -getElem?_pos, er36_0, er36_1, er36_2, er36_3, er36_4, er36_5, er36_6, er36_7, er36_9, cI]
  refine pc_loopI (fun n st => ∃ (i : Nat) (p q r : AV), i + n = 2 ∧ (1 ≤ i → x = 0) ∧ (2 ≤ i → y = 0) ∧ st = ([vI [x, y], .int .i64 0, .int .i64 0, p, vI [x, y], .int .i64 2, .int .i64 i, q, r], [])) 2 ⟨0, _, _, _, rfl, by simp, by simp, rfl⟩ ?_
  rintro n st ⟨i, p, q, r, hi, hx, hy, rfl⟩
  have h3 : i = 0 ∨ i = 1 ∨ i = 2 := by omega
  rcases h3 with rfl | rfl | rfl
  · by_cases hx : x = 0
    · simp [-List.getD_eq_getElem?_getD, -Int.ofNat_toNat, -getElem?_pos, er36_0, er36_1, er36_2, er36_3, er36_4, er36_5, er36_6, er36_7, er36_9, hx, cI]
      exact next_mk 1 (by omega) ⟨1, .int .i64 0, .bool true, .bool false, rfl, fun _ => hx, by omega, by simp [cI, hx]⟩
    · simp [-List.getD_eq_getElem?_getD, -Int.ofNat_toNat, -getElem?_pos, er36_0, er36_1, er36_2, er36_3, er36_4, er36_5, er36_6, er36_7, er36_9, hx, cI]
  · simp at hx
    by_cases hy : y = 0
    · simp [hx, hy, -List.getD_eq_getElem?_getD, -Int.ofNat_toNat, -getElem?_pos, er36_0, er36_1, er36_2, er36_3, er36_4, er36_5, er36_6, er36_7, er36_9, cI]
      exact next_mk 0 (by omega) ⟨2, .int .i64 0, .bool true, .bool false, rfl, fun _ => hx, fun _ => hy, by simp [cI, hx, hy]⟩
    · simp [hx, hy, -List.getD_eq_getElem?_getD, -Int.ofNat_toNat, -getElem?_pos, er36_0, er36_1, er36_2, er36_3, er36_4, er36_5, er36_6, er36_7, er36_9, cI]
  · simp at hx hy
    simp [hx, hy, -List.getD_eq_getElem?_getD, -Int.ofNat_toNat, -getElem?_pos, er36_0, er36_1, er36_2, er36_3, er36_4, er36_5, er36_6, er36_7, er36_9, cI]
abbrev gE (x : Ed) : AV := .agg (aE x)
theorem w_compare (h : Has A (φ 31) (f31 φ)) (h1 : Has A (φ 35) (f35 φ)) (h2 : Has A (φ 37) (f37 φ)) (h3 : Has A (φ 36) (f36 φ)) (x y : Ed) :
    PVal A (φ 31) [gE x, gE y] (.int .i64 (cmpE x y)) := by
  refine pval_has h rfl ?_
  simp only [b31, f31]
  have e := (w_Or h3 (cmpI x.1 y.1) (cmpI x.2 y.2)).eq
  simp only [vI, cI, List.map_cons, List.map_nil, List.length_cons, List.length_nil, Nat.zero_add, Nat.reduceAdd] at e
  simp [-List.getD_eq_getElem?_getD, -Int.ofNat_toNat, -getElem?_pos, er31_0, er31_1, (w_cmp h1 h2 _ _).eq, e, cmpE]
def stepE (n : Int) (es : List Ed) (i : Nat) : Bool := decide (0 ≤ (es.getD i (0, 0)).1) && decide ((es.getD i (0, 0)).1 < (es.getD i (0, 0)).2) && decide ((es.getD i (0, 0)).2 < n) && (i == 0 || decide (cmpE (es.getD (i - 1) (0, 0)) (es.getD i (0, 0)) < 0))
def rightE (n : Int) (es : List Ed) : Bool := decide (0 ≤ n ∧ n ≤ 1000 ∧ es.length ≤ 4000) && (List.range es.length).all (stepE n es)
theorem right_false {n : Int} {l : List Ed} {j : Nat} (hj : j < l.length) (h : stepE n l j = false) : rightE n l = false := by
  unfold rightE
  rw [Bool.and_eq_false_iff]
  right
  rw [List.all_eq_false]
  exact ⟨j, List.mem_range.2 hj, by simp [h]⟩
theorem right_true {n : Int} {l : List Ed} (h : 0 ≤ n ∧ n ≤ 1000 ∧ l.length ≤ 4000) (hs : ∀ i, i < l.length → stepE n l i = true) : rightE n l = true := by
  unfold rightE
  rw [Bool.and_eq_true]
  exact ⟨decide_eq_true h, List.all_eq_true.2 fun i hi => hs i (List.mem_range.1 hi)⟩
abbrev gV (n : Int) (v : AV) : AV := .agg [.int .i64 n, v]
set_option maxHeartbeats 1000000 in
theorem w_Right (h : Has A (φ 4) (f4 φ)) (hc : ∀ x y : Ed, PVal A (φ 31) [gE x, gE y] (.int .i64 (cmpE x y))) (n : Int) (v : AV) (es : List Ed) (hv : IsE v es) :
    PVal A (φ 4) [gV n v] (.bool (rightE n es)) := by
  have hlen := hv.len
  have hone := hv.one
  refine pval_has h rfl ?_
  simp only [l4_9, b4, f4]
  by_cases h0 : n < 0
  · have hf : rightE n es = false := by unfold rightE; simp; omega
    simp [-List.getD_eq_getElem?_getD, -Int.ofNat_toNat, -getElem?_pos, er4_0, er4_1, er4_2, er4_3, er4_4, er4_5, er4_6, er4_7, er4_8, er4_10, h0, hone, hlen, hf]
  by_cases h1 : 1000 < n
  · have hf : rightE n es = false := by unfold rightE; simp; omega
    simp [-List.getD_eq_getElem?_getD, -Int.ofNat_toNat, -getElem?_pos, er4_0, er4_1, er4_2, er4_3, er4_4, er4_5, er4_6, er4_7, er4_8, er4_10, h0, h1, hone, hlen, hf]
  by_cases h2 : 4000 < es.length
  · have hf : rightE n es = false := by unfold rightE; simp; omega
    have h2' : (4000 : Int) < es.length := by omega
    simp [-List.getD_eq_getElem?_getD, -Int.ofNat_toNat, -getElem?_pos, er4_0, er4_1, er4_2, er4_3, er4_4, er4_5, er4_6, er4_7, er4_8, er4_10, h0, h1, h2', hone, hlen, hf]
  have h2' : ¬ (4000 : Int) < es.length := by omega
  simp [-List.getD_eq_getElem?_getD, -Int.ofNat_toNat, -getElem?_pos, er4_0, er4_1, er4_2, er4_3, er4_4, er4_5, er4_6, er4_7, er4_8, er4_10, h0, h1, h2', hone, hlen]
  refine pc_loopI (fun m st => ∃ (i : Nat) (p q r s : AV) (J : Heap), i + m = es.length ∧ (∀ j, j < i → stepE n es j = true) ∧
    st = ([gV n v, .ptr 0 0 0, .bool false, p, q, .bool false, v, .int .i64 es.length, .int .i64 i, r, s], .cells 0 false [.int .i64 n, v] :: J)) es.length ⟨0, _, _, _, _, [], by simp, by simp, rfl⟩ ?_
  rintro m st ⟨i, p, q, r, s, J, hi, hs, rfl⟩
  by_cases hlt : i < es.length
  · have hlt' : (i : Int) < es.length := by omega
    obtain ⟨i1, g1', g2', le1, t1⟩ := hv.at hlt
    have hsi : stepE n es i = (decide (0 ≤ es[i].1) && decide (es[i].1 < es[i].2) && decide (es[i].2 < n) && (i == 0 || decide (cmpE (es.getD (i - 1) (0, 0)) es[i] < 0))) := by
      simp only [stepE, List.getD_eq_getElem?_getD, List.getElem?_eq_getElem hlt, Option.getD_some]
    have hw1 := wrap1 hlt (by omega)
    have hcm := fun y => hc y es[i]
    generalize hx : es[i].1 = x at *
    generalize hy : es[i].2 = y at *
    by_cases g1 : x < 0
    · have hf := right_false hlt (by rw [hsi]; simp; intros; omega)
      simp [-List.getD_eq_getElem?_getD, -Int.ofNat_toNat, -getElem?_pos, er4_0, er4_1, er4_2, er4_3, er4_4, er4_5, er4_6, er4_7, er4_8, er4_10, hlt', i1, le1, t1, g1, hf]
    by_cases g2 : y ≤ x
    · have hf := right_false hlt (by rw [hsi]; simp; intros; omega)
      simp [-List.getD_eq_getElem?_getD, -Int.ofNat_toNat, -getElem?_pos, er4_0, er4_1, er4_2, er4_3, er4_4, er4_5, er4_6, er4_7, er4_8, er4_10, hlt', i1, le1, t1, g1, g2, hf]
    by_cases g3 : n ≤ y
    · have hf := right_false hlt (by rw [hsi]; simp; intros; omega)
      simp [-List.getD_eq_getElem?_getD, -Int.ofNat_toNat, -getElem?_pos, er4_0, er4_1, er4_2, er4_3, er4_4, er4_5, er4_6, er4_7, er4_8, er4_10, hlt', i1, le1, t1, g1, g2, g3, hf]
    have hfin : (i = 0 ∨ cmpE (es.getD (i - 1) (0, 0)) es[i] < 0) → ∀ j, j < i + 1 → stepE n es j = true := by
      intro h j hj
      by_cases e : j < i
      · exact hs j e
      · have e : j = i := by omega
        subst e
        rw [hsi]
        have a1 : 0 ≤ x := by omega
        have a2 : x < y := by omega
        have a3 : y < n := by omega
        rw [decide_eq_true a1, decide_eq_true a2, decide_eq_true a3]
        rcases h with h | h
        · simp [h]
        · rw [decide_eq_true h]; simp
    by_cases g4 : i = 0
    · have g4' : ¬ 0 < i := by omega
      simp [-List.getD_eq_getElem?_getD, -Int.ofNat_toNat, -getElem?_pos, er4_0, er4_1, er4_2, er4_3, er4_4, er4_5, er4_6, er4_7, er4_8, er4_10, hlt', i1, le1, t1, g1, g2, g3, g4', hw1]
      exact next_mk (m - 1) (by omega) ⟨i + 1, _, _, _, _, _, by omega, hfin (.inl g4), rfl⟩
    have g4' : 0 < i := by omega
    have hlt1 : i - 1 < es.length := by omega
    obtain ⟨i2, g3', g4'', le2, t2⟩ := hv.at hlt1
    have hw : IntKind.i64.wrap ((i : Int) - 1) = ((i - 1 : Nat) : Int) := by rw [wrap_in (by omega) (by omega)]; omega
    have hbef : es.getD (i - 1) (0, 0) = es[i - 1] := by rw [List.getD_eq_getElem?_getD, List.getElem?_eq_getElem (by omega)]; rfl
    have hcm2 := (hcm es[i - 1]).eq
    simp only [gE, aE, hx, hy] at hcm2
    rw [hbef] at hfin hsi
    by_cases g5 : 0 ≤ cmpE es[i - 1] es[i]
    · have hf := right_false hlt (by rw [hsi, decide_eq_false (by omega : ¬ cmpE es[i - 1] es[i] < 0)]; simp [g4])
      simp [-List.getD_eq_getElem?_getD, -Int.ofNat_toNat, -getElem?_pos, er4_0, er4_1, er4_2, er4_3, er4_4, er4_5, er4_6, er4_7, er4_8, er4_10, hlt', i1, le1, t1, g1, g2, g3, g4', hw, i2, le2, t2, hcm2, g5, hf]
    · simp [-List.getD_eq_getElem?_getD, -Int.ofNat_toNat, -getElem?_pos, er4_0, er4_1, er4_2, er4_3, er4_4, er4_5, er4_6, er4_7, er4_8, er4_10, hlt', i1, le1, t1, g1, g2, g3, g4', hw, hw1, i2, le2, t2, hcm2, g5]
      exact next_mk (m - 1) (by omega) ⟨i + 1, _, _, _, _, _, by omega, hfin (.inr (by omega)), rfl⟩
  · have hlt' : ¬ (i : Int) < es.length := by omega
    have hm : i = es.length := by omega
    have hf := right_true (n := n) (l := es) (by omega) (by rw [hm] at hs; exact hs)
    simp [-List.getD_eq_getElem?_getD, -Int.ofNat_toNat, -getElem?_pos, er4_0, er4_1, er4_2, er4_3, er4_4, er4_5, er4_6, er4_7, er4_8, er4_10, hlt', hf]
end Go.Ai.G
namespace Go.Ai.G
open Go.Ai
set_option maxRecDepth 100000
set_option linter.unusedSimpArgs false
set_option linter.unusedVariables false
variable {A : AProg} {φ : Nat → Nat}
attribute [local simp ↓] getD_z getD_s hid_k hid_o hid_q hid_v PO_nil PO_none PO_grd PD_nil PD_none PD_grd PDO_N PDO_X PDO_call PDO_calli PDO_callv PStep_N PStep_X PStep_call PStep_calli PC_skip PC_lab
  PC_ret PC_exit PC_reg PC_draw PC_seq PC_block PC_loop PC_scope PC_cond thenC_norm thenC_ret thenC_exit blockC_norm blockC_ret blockC_exit loopC_norm loopC_ret loopC_exit endR_ret
  endR_norm
attribute [local simp] gz PDX_free PDX_eq PStep_callv resK_none resK_t resK_tt KNO_val KNO_new KNO_ite KNO_map KXO_some KXO_ite KVA_t KVA_f KG_skip KG_tt KG_ff KG_tf KG_ft KB_true KB_false KNOD_val
  KNOD_new KNOD_ite n_mv n_pick n_bin n_eqB n_eqN n_eqS n_un n_conv n_fadd n_faddV n_fld1 n_fldN n_idx n_idxA n_idxV n_idxAV n_ext n_lenS n_lenS0 n_lenV n_lenT n_lenA n_min n_max
  n_build n_mkfn n_slc n_slc0 n_slcV n_slcA n_load1 n_loadN n_load1V n_loadNV n_alloc n_box n_bsl n_mksl n_nilcP n_nilcV n_nilcI n_nilcF x_store x_clear0 x_clear b_add b_sub b_mul
  b_eql b_neq b_lss b_leq b_gtr b_geq b_and16 unV ntouch gather hide unhide evalOpd applyOuts int_bne int_beq ite_bool ite_int one_bool cells_bool one_int cells_int one_str cells_str
  one_nilp cells_nilp one_ptr cells_ptr one_nils cells_nils one_sl cells_sl one_nilf cells_nilf one_fn cells_fn one_nili cells_nili one_mp cells_mp one_nilm cells_nilm one_iface
  cells_iface one_vs cells_vs one_vp cells_vp cells_agg Nat.testBit setAt_1 setAt_2 closeds_nil closeds_cons closed_bool closed_int closed_str closed_nilp closed_nils closed_nilm
  closed_nilf closed_nili closed_agg closed_tup closed_vs closed_vp closed_iface closed_fn closeds_cI closeds_cE viewA_closed viewR_closed AV.scal AV.scal0 fillA repA part_bool
  part_int part_str part_nilp part_ptr part_nils part_sl part_nilm part_mp part_nilf part_fn part_nili part_iface part_agg part_vs part_vp viewA_sl1 vaSl_cells wrap_0 wrap_1 wrap_2
  wrap_m1 set_last get_last
theorem er11_0 (φ : Nat → Nat) : r11_0 φ = [
  ⟨0, .N .mv, [.c (.bool false)], none, 0⟩] := Eq.trans rfl rfl
theorem er11_1 (φ : Nat → Nat) : r11_1 φ = [
  ⟨0, .N .mv, [.n 0], none, 0⟩,
  ⟨1, .N .lenS, [.l 0], none, 0⟩,
  ⟨2, .N .mv, [.n 1], none, 0⟩,
  ⟨3, .N .lenS, [.l 0], none, 0⟩,
  ⟨4, .N (.bin .neq), [.l 2, .l 0], none, 0⟩] := Eq.trans rfl rfl
theorem er11_2 (φ : Nat → Nat) : r11_2 φ = [
  ⟨0, .N .mv, [.c (.bool false)], none, 0⟩] := Eq.trans rfl rfl
theorem er11_3 (φ : Nat → Nat) : r11_3 φ = [
  ⟨0, .N .mv, [.c (.int .i64 0)], none, 0⟩] := Eq.trans rfl rfl
theorem er11_4 (φ : Nat → Nat) : r11_4 φ = [
  ⟨0, .N .mv, [.n 3], none, 0⟩,
  ⟨1, .N .mv, [.n 0], none, 0⟩,
  ⟨2, .N .lenS, [.l 0], none, 0⟩,
  ⟨3, .N (.bin .lss), [.l 2, .l 0], none, 0⟩] := Eq.trans rfl rfl
theorem er11_5 (φ : Nat → Nat) : r11_5 φ = [
  ⟨0, .N .mv, [.n 0], none, 0⟩,
  ⟨1, .N .mv, [.n 3], none, 0⟩,
  ⟨2, .N (.idx 1), [.l 1, .l 0], none, 3⟩,
  ⟨3, .N .load1, [.l 0], none, 7⟩,
  ⟨4, .N .mv, [.n 1], none, 0⟩,
  ⟨5, .N .mv, [.n 3], none, 0⟩,
  ⟨6, .N (.idx 1), [.l 1, .l 0], none, 48⟩,
  ⟨7, .N .load1, [.l 0], none, 112⟩,
  ⟨8, .N (.bin .neq), [.l 4, .l 0], none, 255⟩] := Eq.trans rfl rfl
theorem er11_6 (φ : Nat → Nat) : r11_6 φ = [
  ⟨0, .N .mv, [.c (.bool false)], none, 0⟩] := Eq.trans rfl rfl
theorem er11_7 (φ : Nat → Nat) : r11_7 φ = [
  ⟨0, .N .mv, [.n 3], none, 0⟩,
  ⟨1, .N (.bin .add), [.l 0, .c (.int .i64 1)], none, 0⟩,
  ⟨2, .N .mv, [.l 0], none, 0⟩] := Eq.trans rfl rfl
theorem er11_9 (φ : Nat → Nat) : r11_9 φ = [
  ⟨0, .N .mv, [.c (.bool true)], none, 0⟩] := Eq.trans rfl rfl
theorem er25_0 (φ : Nat → Nat) : r25_0 φ = [
  ⟨0, .N .mv, [.c (.bool false)], none, 0⟩] := Eq.trans rfl rfl
theorem er25_1 (φ : Nat → Nat) : r25_1 φ = [
  ⟨0, .N .mv, [.c (.int .i64 0)], none, 0⟩] := Eq.trans rfl rfl
theorem er25_2 (φ : Nat → Nat) : r25_2 φ = [
  ⟨0, .N .mv, [.n 3], none, 0⟩,
  ⟨1, .N .mv, [.n 0], none, 0⟩,
  ⟨2, .N .lenS, [.l 0], none, 0⟩,
  ⟨3, .N (.bin .lss), [.l 2, .l 0], none, 0⟩] := Eq.trans rfl rfl
theorem er25_3 (φ : Nat → Nat) : r25_3 φ = [
  ⟨0, .N .mv, [.n 0], none, 0⟩,
  ⟨1, .N .mv, [.n 3], none, 0⟩,
  ⟨2, .N (.idx 1), [.l 1, .l 0], none, 0⟩,
  ⟨3, .N .load1, [.l 0], none, 0⟩,
  ⟨4, .N .mv, [.n 1], none, 0⟩,
  ⟨5, .N (.bin .eql), [.l 1, .l 0], none, 0⟩] := Eq.trans rfl rfl
theorem er25_4 (φ : Nat → Nat) : r25_4 φ = [
  ⟨0, .N .mv, [.c (.bool true)], none, 0⟩] := Eq.trans rfl rfl
theorem er25_5 (φ : Nat → Nat) : r25_5 φ = [
  ⟨0, .N .mv, [.n 3], none, 0⟩,
  ⟨1, .N (.bin .add), [.l 0, .c (.int .i64 1)], none, 0⟩,
  ⟨2, .N .mv, [.l 0], none, 0⟩] := Eq.trans rfl rfl
theorem er25_7 (φ : Nat → Nat) : r25_7 φ = [
  ⟨0, .N .mv, [.c (.bool false)], none, 0⟩] := Eq.trans rfl rfl
theorem er23_0 (φ : Nat → Nat) : r23_0 φ = [
  ⟨0, .N .mv, [.c (.bool false)], none, 0⟩] := Eq.trans rfl rfl
theorem er23_1 (φ : Nat → Nat) : r23_1 φ = [
  ⟨0, .N .mv, [.n 0], none, 0⟩,
  ⟨1, .N .lenS, [.l 0], none, 0⟩,
  ⟨2, .N .mv, [.n 1], none, 0⟩,
  ⟨3, .N .lenS, [.l 0], none, 0⟩,
  ⟨4, .N (.bin .neq), [.l 2, .l 0], none, 0⟩] := Eq.trans rfl rfl
theorem er23_2 (φ : Nat → Nat) : r23_2 φ = [
  ⟨0, .N .mv, [.c (.bool false)], none, 0⟩] := Eq.trans rfl rfl
theorem er23_3 (φ : Nat → Nat) : r23_3 φ = [
  ⟨0, .N .mv, [.c (.int .i64 0)], none, 0⟩] := Eq.trans rfl rfl
theorem er23_4 (φ : Nat → Nat) : r23_4 φ = [
  ⟨0, .N .mv, [.n 3], none, 0⟩,
  ⟨1, .N .mv, [.n 0], none, 0⟩,
  ⟨2, .N .lenS, [.l 0], none, 0⟩,
  ⟨3, .N (.bin .lss), [.l 2, .l 0], none, 0⟩] := Eq.trans rfl rfl
theorem er23_5 (φ : Nat → Nat) : r23_5 φ = [
  ⟨0, .N .mv, [.n 0], none, 0⟩,
  ⟨1, .N .mv, [.n 3], none, 0⟩,
  ⟨2, .N (.idx 2), [.l 1, .l 0], none, 3⟩,
  ⟨3, .N (.loadN 2), [.l 0], none, 7⟩,
  ⟨4, .N .mv, [.n 1], none, 0⟩,
  ⟨5, .N .mv, [.n 3], none, 0⟩,
  ⟨6, .N (.idx 2), [.l 1, .l 0], none, 48⟩,
  ⟨7, .N (.loadN 2), [.l 0], none, 112⟩,
  ⟨8, .N (.eqS [1, 1] true), [.l 4, .l 0], none, 255⟩] := Eq.trans rfl rfl
theorem er23_6 (φ : Nat → Nat) : r23_6 φ = [
  ⟨0, .N .mv, [.c (.bool false)], none, 0⟩] := Eq.trans rfl rfl
theorem er23_7 (φ : Nat → Nat) : r23_7 φ = [
  ⟨0, .N .mv, [.n 3], none, 0⟩,
  ⟨1, .N (.bin .add), [.l 0, .c (.int .i64 1)], none, 0⟩,
  ⟨2, .N .mv, [.l 0], none, 0⟩] := Eq.trans rfl rfl
theorem er23_9 (φ : Nat → Nat) : r23_9 φ = [
  ⟨0, .N .mv, [.c (.bool true)], none, 0⟩] := Eq.trans rfl rfl
theorem er3_0 (φ : Nat → Nat) : r3_0 φ = [
  ⟨0, .N .box, [.n 0], none, 0⟩,
  ⟨1, .N .box, [.n 1], none, 0⟩,
  ⟨2, .N .mv, [.c (.bool false)], none, 0⟩] := Eq.trans rfl rfl
theorem er3_1 (φ : Nat → Nat) : r3_1 φ = [
  ⟨0, .N (.fadd 0), [.n 2], none, 0⟩,
  ⟨1, .N .load1, [.l 0], none, 0⟩,
  ⟨2, .N (.fadd 0), [.n 3], none, 0⟩,
  ⟨3, .N .load1, [.l 0], none, 0⟩,
  ⟨4, .N (.bin .eql), [.l 2, .l 0], none, 0⟩,
  ⟨5, .N .mv, [.l 0], none, 0⟩,
  ⟨6, .N (.fadd 1), [.n 2], some (.l 0, true), 0⟩,
  ⟨7, .N .load1, [.l 0], some (.l 1, true), 0⟩,
  ⟨8, .N (.fadd 1), [.n 3], some (.l 2, true), 0⟩,
  ⟨9, .N .load1, [.l 0], some (.l 3, true), 0⟩,
  ⟨10, .calli true (φ 23), [.l 2, .l 0], some (.l 4, true), 0⟩,
  ⟨11, .N .pick, [.l 5, .l 0, .c (.bool false)], none, 0⟩,
  ⟨12, .N .mv, [.l 0], none, 0⟩] := Eq.trans rfl rfl
theorem er30_0 (φ : Nat → Nat) : r30_0 φ = [
  ⟨0, .N .mv, [.c (.nils)], none, 0⟩] := Eq.trans rfl rfl
theorem er30_1 (φ : Nat → Nat) : r30_1 φ = [
  ⟨0, .N (.bsl [.int .i64 0] 0 1 []), [], none, 0⟩,
  ⟨1, .N .mv, [.l 0], none, 0⟩] := Eq.trans rfl rfl
theorem er30_2 (φ : Nat → Nat) : r30_2 φ = [
  ⟨0, .N .mv, [.c (.int .i64 0)], none, 0⟩] := Eq.trans rfl rfl
theorem er30_3 (φ : Nat → Nat) : r30_3 φ = [
  ⟨0, .N .mv, [.n 3], none, 0⟩,
  ⟨1, .N .mv, [.n 0], none, 0⟩,
  ⟨2, .N .lenS, [.l 0], none, 0⟩,
  ⟨3, .N (.bin .lss), [.l 2, .l 0], none, 0⟩] := Eq.trans rfl rfl
theorem er30_4 (φ : Nat → Nat) : r30_4 φ = [
  ⟨0, .N .mv, [.n 2], none, 0⟩,
  ⟨1, .N .lenS, [.l 0], none, 0⟩,
  ⟨2, .N .mv, [.l 0], none, 0⟩] := Eq.trans rfl rfl
theorem er30_5 (φ : Nat → Nat) : r30_5 φ = [
  ⟨0, .N .mv, [.n 4], none, 0⟩,
  ⟨1, .N (.bin .gtr), [.l 0, .c (.int .i64 0)], none, 1⟩,
  ⟨2, .N .mv, [.l 0], none, 3⟩,
  ⟨3, .N .mv, [.n 2], some (.l 0, true), 7⟩,
  ⟨4, .N .mv, [.n 4], some (.l 1, true), 7⟩,
  ⟨5, .N (.bin .sub), [.l 0, .c (.int .i64 1)], some (.l 2, true), 23⟩,
  ⟨6, .N (.idx 1), [.l 2, .l 0], some (.l 3, true), 63⟩,
  ⟨7, .N .load1, [.l 0], some (.l 4, true), 127⟩,
  ⟨8, .N .mv, [.n 0], some (.l 5, true), 7⟩,
  ⟨9, .N .mv, [.n 3], some (.l 6, true), 7⟩,
  ⟨10, .N (.idx 1), [.l 1, .l 0], some (.l 7, true), 775⟩,
  ⟨11, .N .load1, [.l 0], some (.l 8, true), 1799⟩,
  ⟨12, .N (.bin .gtr), [.l 4, .l 0], some (.l 9, true), 4095⟩,
  ⟨13, .N .pick, [.l 10, .l 0, .c (.bool false)], none, 8191⟩] := Eq.trans rfl rfl
theorem er30_6 (φ : Nat → Nat) : r30_6 φ = [
  ⟨0, .N .mv, [.n 4], none, 0⟩,
  ⟨1, .N (.bin .sub), [.l 0, .c (.int .i64 1)], none, 0⟩,
  ⟨2, .N .mv, [.l 0], none, 0⟩] := Eq.trans rfl rfl
theorem er30_8 (φ : Nat → Nat) : r30_8 φ = [
  ⟨0, .N .mv, [.n 2], none, 0⟩,
  ⟨1, .N (.bsl [.int .i64 0] 1 1 [(0, 1)]), [.c (.int .i64 0)], none, 0⟩,
  ⟨2, .X (.app 1 8), [.l 1, .l 0], none, 0⟩,
  ⟨3, .N .mv, [.l 0], none, 0⟩] := Eq.trans rfl rfl
theorem er30_9 (φ : Nat → Nat) : r30_9 φ = [
  ⟨0, .N .mv, [.n 2], none, 0⟩,
  ⟨1, .N .mv, [.n 4], none, 0⟩,
  ⟨2, .N (.bin .add), [.l 0, .c (.int .i64 1)], none, 2⟩,
  ⟨3, .N (.slc 1 true false false), [.l 2, .l 0], none, 7⟩,
  ⟨4, .N .mv, [.n 2], none, 0⟩,
  ⟨5, .N .mv, [.n 4], none, 0⟩,
  ⟨6, .N (.slc 1 true false false), [.l 1, .l 0], none, 48⟩,
  ⟨7, .X (.copy 1), [.l 3, .l 0], none, 127⟩] := Eq.trans rfl rfl
theorem er30_10 (φ : Nat → Nat) : r30_10 φ = [
  ⟨0, .N .mv, [.n 2], none, 0⟩,
  ⟨1, .N .mv, [.n 4], none, 0⟩,
  ⟨2, .N .mv, [.n 0], none, 0⟩,
  ⟨3, .N .mv, [.n 3], none, 0⟩,
  ⟨4, .N (.idx 1), [.l 1, .l 0], none, 0⟩,
  ⟨5, .N .load1, [.l 0], none, 0⟩,
  ⟨6, .N (.idx 1), [.l 5, .l 4], none, 0⟩,
  ⟨7, .X (.store 1), [.l 0, .l 1], none, 0⟩] := Eq.trans rfl rfl
theorem er30_11 (φ : Nat → Nat) : r30_11 φ = [
  ⟨0, .N .mv, [.n 3], none, 0⟩,
  ⟨1, .N (.bin .add), [.l 0, .c (.int .i64 1)], none, 0⟩,
  ⟨2, .N .mv, [.l 0], none, 0⟩] := Eq.trans rfl rfl
theorem er30_13 (φ : Nat → Nat) : r30_13 φ = [
  ⟨0, .N .mv, [.n 2], none, 0⟩,
  ⟨1, .N .mv, [.l 0], none, 0⟩] := Eq.trans rfl rfl
theorem w_Same (h : Has A (φ 11) (f11 φ)) (v u : AV) (xs ys : List Int) (hv : IsI v xs) (hu : IsI u ys) (hn : xs.length < 1000000000000) : PVal A (φ 11) [v, u] (.bool (decide (xs = ys))) := by
  have l1 := hv.len; have l2 := hu.len
  refine pval_has h rfl ?_
  simp only [l11_8, b11, f11]
  by_cases hl : xs.length = ys.length
  · have hl' : (xs.length : Int) = ys.length := by omega
    simp [-List.getD_eq_getElem?_getD, -Int.ofNat_toNat, -getElem?_pos, er11_0, er11_1, er11_2, er11_3, er11_4, er11_5, er11_6, er11_7, er11_9, l1, l2, hl]
    refine pc_loopI (fun m st => ∃ (i : Nat) (q r : AV), i + m = xs.length ∧ xs.take i = ys.take i ∧ st = ([v, u, .bool false, .int .i64 i, .bool false, q, r], [])) xs.length ⟨0, _, _, by simp, by simp, rfl⟩ ?_
    rintro m st ⟨i, q, r, hi, hp, rfl⟩
    by_cases hlt : i < xs.length
    · obtain ⟨i1, g1⟩ := hv.at hlt
      obtain ⟨i2, g2⟩ := hu.at (i := i) (by omega)
      have hw := wrap1 hlt (by omega)
      have hlt' : (i : Int) < xs.length := by omega
      by_cases hx : xs[i] = ys[i]
      · simp [-List.getD_eq_getElem?_getD, -Int.ofNat_toNat, -getElem?_pos, er11_0, er11_1, er11_2, er11_3, er11_4, er11_5, er11_6, er11_7, er11_9, l1, hlt, i1, i2, g1, g2, hx, hw]
        refine next_mk (m - 1) (by omega) ⟨i + 1, _, _, by omega, ?_, rfl⟩
        rw [List.take_succ_eq_append_getElem hlt, List.take_succ_eq_append_getElem (by omega : i < ys.length), hp, hx]
      · have hr : ¬ xs = ys := fun h => hx (by simp [h])
        simp [-List.getD_eq_getElem?_getD, -Int.ofNat_toNat, -getElem?_pos, er11_0, er11_1, er11_2, er11_3, er11_4, er11_5, er11_6, er11_7, er11_9, l1, hlt, i1, i2, g1, g2, hx, hr]
    · have hm : i = xs.length := by omega
      have hr : xs = ys := by rw [hm, List.take_length] at hp; rw [hl, List.take_length] at hp; exact hp
      simp [-List.getD_eq_getElem?_getD, -Int.ofNat_toNat, -getElem?_pos, er11_0, er11_1, er11_2, er11_3, er11_4, er11_5, er11_6, er11_7, er11_9, l1, hlt, ← hr]
  · have hl' : ¬ (xs.length : Int) = ys.length := by omega
    have hr : ¬ xs = ys := fun h => hl (by rw [h])
    simp [-List.getD_eq_getElem?_getD, -Int.ofNat_toNat, -getElem?_pos, er11_0, er11_1, er11_2, er11_3, er11_4, er11_5, er11_6, er11_7, er11_9, l1, l2, hl', hr]
theorem w_SameEdges (h : Has A (φ 23) (f23 φ)) (v u : AV) (xs ys : List Ed) (hv : IsE v xs) (hu : IsE u ys) (hn : xs.length < 1000000000000) : PVal A (φ 23) [v, u] (.bool (decide (xs = ys))) := by
  have l1 := hv.len; have l2 := hu.len
  refine pval_has h rfl ?_
  simp only [l23_8, b23, f23]
  by_cases hl : xs.length = ys.length
  · have hl' : (xs.length : Int) = ys.length := by omega
    simp [-List.getD_eq_getElem?_getD, -Int.ofNat_toNat, -getElem?_pos, er23_0, er23_1, er23_2, er23_3, er23_4, er23_5, er23_6, er23_7, er23_9, l1, l2, hl]
    refine pc_loopI (fun m st => ∃ (i : Nat) (q r : AV), i + m = xs.length ∧ xs.take i = ys.take i ∧ st = ([v, u, .bool false, .int .i64 i, .bool false, q, r], [])) xs.length ⟨0, _, _, by simp, by simp, rfl⟩ ?_
    rintro m st ⟨i, q, r, hi, hp, rfl⟩
    by_cases hlt : i < xs.length
    · obtain ⟨i1, _, _, le1, t1⟩ := hv.at hlt
      obtain ⟨i2, _, _, le2, t2⟩ := hu.at (i := i) (by omega)
      have hw := wrap1 hlt (by omega)
      have hlt' : (i : Int) < xs.length := by omega
      by_cases hx : xs[i] = ys[i]
      · simp [-List.getD_eq_getElem?_getD, -Int.ofNat_toNat, -getElem?_pos, er23_0, er23_1, er23_2, er23_3, er23_4, er23_5, er23_6, er23_7, er23_9, l1, hlt, i1, i2, le1, le2, t1, t2, eqS2, hx, hw]
        refine next_mk (m - 1) (by omega) ⟨i + 1, _, _, by omega, ?_, rfl⟩
        rw [List.take_succ_eq_append_getElem hlt, List.take_succ_eq_append_getElem (by omega : i < ys.length), hp, hx]
      · have hr : ¬ xs = ys := fun h => hx (by simp [h])
        simp [-List.getD_eq_getElem?_getD, -Int.ofNat_toNat, -getElem?_pos, er23_0, er23_1, er23_2, er23_3, er23_4, er23_5, er23_6, er23_7, er23_9, l1, hlt, i1, i2, le1, le2, t1, t2, eqS2, hx, hr]
    · have hm : i = xs.length := by omega
      have hr : xs = ys := by rw [hm, List.take_length] at hp; rw [hl, List.take_length] at hp; exact hp
      simp [-List.getD_eq_getElem?_getD, -Int.ofNat_toNat, -getElem?_pos, er23_0, er23_1, er23_2, er23_3, er23_4, er23_5, er23_6, er23_7, er23_9, l1, hlt, ← hr]
  · have hl' : ¬ (xs.length : Int) = ys.length := by omega
    have hr : ¬ xs = ys := fun h => hl (by rw [h])
    simp [-List.getD_eq_getElem?_getD, -Int.ofNat_toNat, -getElem?_pos, er23_0, er23_1, er23_2, er23_3, er23_4, er23_5, er23_6, er23_7, er23_9, l1, l2, hl', hr]
theorem w_SameGraph (h : Has A (φ 3) (f3 φ)) (h2 : Has A (φ 23) (f23 φ)) (n m : Int) (v u : AV) (xs ys : List Ed) (hv : IsE v xs) (hu : IsE u ys) (hn : xs.length < 1000000000000) : PVal A (φ 3) [gV n v, gV m u] (.bool (decide (n = m ∧ xs = ys))) := by
  refine pval_has h rfl ?_
  simp only [b3, f3]
  by_cases h : n = m
  · simp [-List.getD_eq_getElem?_getD, -Int.ofNat_toNat, -getElem?_pos, er3_0, er3_1, hv.one, hu.one, h, hv.closed, hu.closed, (w_SameEdges h2 v u xs ys hv hu hn).eq]
  · simp [-List.getD_eq_getElem?_getD, -Int.ofNat_toNat, -getElem?_pos, er3_0, er3_1, hv.one, hu.one, h]
theorem w_In (h : Has A (φ 25) (f25 φ)) (v : AV) (xs : List Int) (x : Int) (hv : IsI v xs) (hn : xs.length < 1000000000000) : PVal A (φ 25) [v, .int .i64 x] (.bool (decide (x ∈ xs))) := by
  have l1 := hv.len
  refine pval_has h rfl ?_
  simp only [l25_6, b25, f25]
  simp [-List.getD_eq_getElem?_getD, -Int.ofNat_toNat, -getElem?_pos, er25_0, er25_1, er25_2, er25_3, er25_4, er25_5, er25_7]
  refine pc_loopI (fun m st => ∃ (i : Nat) (q r : AV), i + m = xs.length ∧ (∀ j (h : j < xs.length), j < i → ¬ xs[j] = x) ∧ st = ([v, .int .i64 x, .bool false, .int .i64 i, q, r], [])) xs.length ⟨0, _, _, by simp, by simp, rfl⟩ ?_
  rintro m st ⟨i, q, r, hi, hp, rfl⟩
  by_cases hlt : i < xs.length
  · obtain ⟨i1, g1⟩ := hv.at hlt
    have hw := wrap1 hlt (by omega)
    by_cases hx : xs[i] = x
    · have hr : x ∈ xs := by rw [← hx]; exact List.getElem_mem hlt
      simp [-List.getD_eq_getElem?_getD, -Int.ofNat_toNat, -getElem?_pos, er25_0, er25_1, er25_2, er25_3, er25_4, er25_5, er25_7, l1, hlt, i1, g1, hx, hr]
    · simp [-List.getD_eq_getElem?_getD, -Int.ofNat_toNat, -getElem?_pos, er25_0, er25_1, er25_2, er25_3, er25_4, er25_5, er25_7, l1, hlt, i1, g1, hx, hw]
      refine next_mk (m - 1) (by omega) ⟨i + 1, _, _, by omega, fun j h hj => ?_, rfl⟩
      by_cases e : j = i
      · subst e; exact hx
      · exact hp j h (by omega)
  · have hr : ¬ x ∈ xs := by
      intro hm
      obtain ⟨j, hj, e⟩ := List.getElem_of_mem hm
      exact hp j hj (by omega) e
    simp [-List.getD_eq_getElem?_getD, -Int.ofNat_toNat, -getElem?_pos, er25_0, er25_1, er25_2, er25_3, er25_4, er25_5, er25_7, l1, hlt, hr]
/-! ### Sorted -/
def sortI (xs : List Int) : List Int := xs.mergeSort fun a b => decide (a ≤ b)
theorem sortI_perm (xs : List Int) : (sortI xs).Perm xs := List.mergeSort_perm _ _
theorem sortI_sorted (xs : List Int) : (sortI xs).Pairwise (· ≤ ·) := by
  have := List.pairwise_mergeSort (le := fun a b : Int => decide (a ≤ b)) (fun a b c h1 h2 => by simp at *; omega) (fun a b => by simp; omega) xs
  exact this.imp (fun h => by simpa using h)
theorem sortI_len (xs : List Int) : (sortI xs).length = xs.length := (sortI_perm xs).length_eq
theorem sortI_unique : ∀ {l m : List Int}, l.Pairwise (· ≤ ·) → m.Pairwise (· ≤ ·) → l.Perm m → l = m
  | [], m, _, _, hp => hp.nil_eq
  | x :: l, [], _, _, hp => by have := hp.length_eq; simp at this
  | x :: l, y :: m, hl, hm, hp => by
    have e : x = y := by
      have h1 : x ∈ y :: m := hp.mem_iff.1 (List.mem_cons_self ..)
      have h2 : y ∈ x :: l := hp.mem_iff.2 (List.mem_cons_self ..)
      rcases List.mem_cons.1 h1 with h1 | h1
      · exact h1
      · rcases List.mem_cons.1 h2 with h2 | h2
        · exact h2.symm
        · have a := List.rel_of_pairwise_cons hl h2
          have b := List.rel_of_pairwise_cons hm h1
          omega
    subst e
    rw [sortI_unique (List.Pairwise.of_cons hl) (List.Pairwise.of_cons hm) (List.Perm.cons_inv hp)]
theorem sortI_of {l m : List Int} (h : m.Pairwise (· ≤ ·)) (hp : m.Perm l) : sortI l = m := sortI_unique (sortI_sorted l) h ((sortI_perm l).trans hp.symm)
theorem sortI_nil : sortI [] = [] := by simp [sortI]
/-- One more number, set in at its place. -/
theorem sortI_ins {l : List Int} {x : Int} {p : Nat} (hp : p ≤ (sortI l).length) (h1 : ∀ j (h : j < (sortI l).length), p ≤ j → x < (sortI l)[j]) (h2 : p = 0 ∨ ∀ h : p - 1 < (sortI l).length, (sortI l)[p - 1] ≤ x) :
    sortI (l ++ [x]) = (sortI l).take p ++ x :: (sortI l).drop p := by
  have hs := sortI_sorted l
  have hm := sortI_perm l
  generalize sortI l = o at *
  refine sortI_of ?_ ?_
  · rw [List.pairwise_append]
    refine ⟨hs.sublist (List.take_sublist _ _), ?_, ?_⟩
    · refine List.Pairwise.cons (fun y hy => ?_) (hs.sublist (List.drop_sublist _ _))
      obtain ⟨j, hj, rfl⟩ := List.getElem_of_mem hy
      rw [List.getElem_drop]
      have := h1 (p + j) (by simp at hj; omega) (by omega)
      omega
    · intro a ha b hb
      obtain ⟨j, hj, rfl⟩ := List.getElem_of_mem ha
      simp at hj
      rw [List.getElem_take]
      have hle : o[j] ≤ x := by
        rcases h2 with h | h
        · omega
        · have h3 := h (by omega)
          by_cases e : j = p - 1
          · subst e; exact h3
          · have := List.pairwise_iff_getElem.1 hs j (p - 1) (by omega) (by omega) (by omega)
            omega
      rcases List.mem_cons.1 hb with rfl | hb
      · exact hle
      · obtain ⟨k, hk, rfl⟩ := List.getElem_of_mem hb
        rw [List.getElem_drop]
        have := h1 (p + k) (by simp at hk; omega) (by omega)
        omega
  · have : (o.take p ++ x :: o.drop p).Perm (x :: (o.take p ++ o.drop p)) := List.perm_middle
    rw [List.take_append_drop] at this
    exact this.trans ((hm.cons x).trans (List.perm_append_singleton x l).symm)
theorem ins_cells (o : List Int) (x : Int) (p : Nat) (hp : p ≤ o.length) :
    setAt (setAt (cI o ++ [AV.int .i64 0]) (p + 1) (((cI o ++ [AV.int .i64 0]).drop p).take (o.length - p))) p [AV.int .i64 x] = cI (o.take p ++ x :: o.drop p) := by
  have hl : (cI o ++ [AV.int .i64 0]).length = o.length + 1 := by simp [cI]
  have hl3 : (cI o).length = o.length := cI_len o
  have hl2 : (((cI o ++ [AV.int .i64 0]).drop p).take (o.length - p)).length = o.length - p := by simp [cI]; omega
  apply List.ext_getElem?
  intro i
  rw [setAt_get (by rw [setAt_len (by omega)]; simp; omega), setAt_get (by omega), hl2]
  simp only [cI, List.map_append, List.map_cons, List.map_take, List.map_drop, List.length_singleton]
  have hml : ∀ k, (List.take k (o.map (AV.int .i64 ·))).length = min k o.length := by simp
  have e0 : min p o.length = p := Nat.min_eq_left hp
  have hm2 : (o.map (AV.int .i64 ·)).length = o.length := by simp
  by_cases h1 : i = p
  · subst h1
    rw [if_pos (by omega)]
    rw [List.getElem?_append_right (by rw [hml]; omega), hml, e0]
    simp
  · rw [if_neg (by omega)]
    by_cases h2 : i < p
    · rw [if_neg (by omega), List.getElem?_append_left (by rw [hm2]; omega), List.getElem?_append_left (by rw [hml]; omega), List.getElem?_take, if_pos h2]
    · rw [List.getElem?_append_right (l₁ := List.take p _) (by rw [hml]; omega), hml, e0]
      have e : i - p = (i - p - 1) + 1 := by omega
      rw [e, List.getElem?_cons_succ, List.getElem?_drop]
      by_cases h3 : i < o.length + 1
      · rw [if_pos (by omega), List.getElem?_take, if_pos (by omega), List.getElem?_drop, List.getElem?_append_left (by rw [hm2]; omega)]
        congr 1
      · rw [if_neg (by omega), List.getElem?_eq_none (by simp; omega), List.getElem?_eq_none (by rw [hm2]; omega)]
theorem x_copy_own {H : Heap} {b g p n : Nat} {ex ex2 : Bool} {cl1 cl2 : Nat} {c : List AV} (hb : H[b]? = some (.cells g false c)) (hl : c.length = n + 1) (hp : p ≤ n) (hone : c.all (·.one) = true) :
    ∃ r, xstep (.copy 1) [.sl b g (p + 1) (n - p) 1 cl1 ex, .sl b g p (n + 1 - p) 1 cl2 ex2] H = some (r, H.set b (.cells g false (setAt c (p + 1) ((c.drop p).take (n - p))))) := by
  have e1 : ¬ n + 1 - p = 0 := by omega
  have hset : H.set b (.cells g false c) = H := by
    obtain ⟨h1, h2⟩ := List.getElem?_eq_some_iff.1 hb
    rw [← h2]; exact List.set_getElem_self h1
  have e3 : p + (n + 1 - p) ≤ n + 1 := by omega
  have e4 : min (n + 1 - p) (n - p) = n - p := by omega
  by_cases h0 : n - p = 0
  · refine ⟨.int .i64 0, ?_⟩
    simp [xstep, srcCells, e1, rdSl, hb, hl, e3, e4, h0, setAt, hset]
  · refine ⟨.int .i64 ((n - p : Nat) : Int), ?_⟩
    have e6 : ∀ x, x ∈ (c.drop p).take (n + 1 - p) → x.one = true := fun x hx => List.all_eq_true.1 hone x (List.mem_of_mem_drop (List.mem_of_mem_take hx))
    have e7 : min (n - p) (n + 1 - p) = n - p := by omega
    simp [xstep, srcCells, e1, rdSl, hb, hl, e3, e4, h0, List.take_take, e7]
    exact ⟨by omega, e6⟩
set_option maxHeartbeats 1000000 in
theorem w_Sorted (h : Has A (φ 30) (f30 φ)) (v : AV) (xs : List Int) (hv : IsI v xs) (hn : xs.length < 1000000000000) : PVal A (φ 30) [v] (vI (sortI xs)) := by
  have l1 := hv.len
  refine pval_has h rfl ?_
  simp only [l30_7, l30_12, b30, f30]
  simp [-List.getD_eq_getElem?_getD, -Int.ofNat_toNat, -getElem?_pos, er30_0, er30_1, er30_2, er30_3, er30_4, er30_5, er30_6, er30_8, er30_9, er30_10, er30_11, er30_13]
  refine pc_loopI (fun m st => ∃ (i : Nat) (o p q r : AV) (H : Heap), i + m = xs.length ∧ OwnI false 0 H o (sortI (xs.take i)) ∧ st = ([v, .nils, o, .int .i64 i, p, q, r], H)) xs.length ⟨0, _, _, _, _, _, by simp, by rw [List.take_zero, sortI_nil]; exact own_empty 0 _ 1 0 0 0, rfl⟩ ?_
  rintro m st ⟨i, o, p, q, r, H, hi, ho, rfl⟩
  have hol := ho.len
  have hsl : (sortI (xs.take i)).length = i := by rw [sortI_len]; simp; omega
  by_cases hlt : i < xs.length
  · obtain ⟨i1, g1⟩ := hv.at hlt
    have hw := wrap1 hlt (by omega)
    simp [-List.getD_eq_getElem?_getD, -Int.ofNat_toNat, -getElem?_pos, er30_0, er30_1, er30_2, er30_3, er30_4, er30_5, er30_6, er30_8, er30_9, er30_10, er30_11, er30_13, l1, hlt, hol]
    refine pc_loopI (fun m st => ∃ (j : Nat) (r : AV), j = m ∧ j ≤ i ∧ (∀ k (h : k < (sortI (xs.take i)).length), j ≤ k → xs[i] < (sortI (xs.take i))[k]) ∧ st = ([v, .nils, o, .int .i64 i, .int .i64 j, .bool true, r], H)) i ⟨i, _, rfl, by omega, fun k h hk => by omega, by simp [hsl]; rfl⟩ ?_
    rintro m st ⟨j, r, rfl, hji, hgt, rfl⟩
    generalize hx : xs[i] = x at *
    have htk : xs.take (i + 1) = xs.take i ++ [x] := by rw [List.take_succ_eq_append_getElem hlt, hx]
    have hwj := wrap1 (i := j) (n := i + 1) (by omega) (by omega)
    by_cases hj : j = 0
    · have hj0 : ¬ 0 < j := by omega
      have hor : j = 0 ∨ ∀ h : j - 1 < (sortI (xs.take i)).length, (sortI (xs.take i))[j - 1] ≤ x := .inl hj
      simp [-List.getD_eq_getElem?_getD, -Int.ofNat_toNat, -getElem?_pos, er30_0, er30_1, er30_2, er30_3, er30_4, er30_5, er30_6, er30_13, hj0]
      obtain ⟨o', H1, x1, x2, x3, x4, x5, x6⟩ := ho.app1 0 (by simp) (by omega)
      rcases x2 with ⟨h0, _⟩ | ⟨h0, b, g, ex, rfl, hP, hl, hb⟩
      · simp at h0
      have hlt1 := lt_of_get hb
      rw [cI_append] at hb
      simp only [cI_cons, cI_nil] at hb
      have hl2 : (cI (sortI (xs.take i)) ++ [AV.int .i64 0]).length = i + 1 := by simp [cI_len, hsl]
      obtain ⟨r, hcp⟩ := x_copy_own (p := j) (n := i) (ex := ex) (ex2 := ex) (cl1 := i - j) (cl2 := i + 1 - j) hb hl2 hji (by rw [List.all_append, ones_cI]; rfl)
      have hic := ins_cells (sortI (xs.take i)) x j (by omega)
      rw [hsl] at hic
      have hcl : (setAt (cI (sortI (xs.take i)) ++ [AV.int .i64 0]) (j + 1) (((cI (sortI (xs.take i)) ++ [AV.int .i64 0]).drop j).take (i - j))).length = i + 1 := by
        rw [setAt_len (by simp [cI_len, hsl]; omega)]; simp [cI_len, hsl]
      have hset : ∀ z, (H1.set b z)[b]? = some z := fun z => List.getElem?_set_self hlt1
      have b1 : (0 : Int) ≤ (j : Int) + 1 := by omega
      have b2 : (j : Int) ≤ (i : Int) + 1 := by omega
      have b3 : j < i + 1 := by omega
      have htk2 : sortI (xs.take (i + 1)) = (sortI (xs.take i)).take j ++ x :: (sortI (xs.take i)).drop j := by
        rw [htk]; exact sortI_ins (by omega) hgt hor
      have hsl2 : (sortI (xs.take (i + 1))).length = i + 1 := by rw [sortI_len]; simp; omega
      simp [-List.getD_eq_getElem?_getD, -Int.ofNat_toNat, -getElem?_pos, er30_0, er30_1, er30_2, er30_3, er30_4, er30_5, er30_6, er30_8, er30_9, er30_10, er30_11, er30_13, x1, hsl, hwj, bounds3, intArg, hji, b1, b2, b3, hcp, i1, g1, hset, hcl, hic, hw]
      refine ⟨by omega, ?_⟩
      exact next_mk (m - 1) (by omega) ⟨i + 1, _, _, _, _, _, by omega, .inr ⟨by omega, b, g, ex, by rw [hsl2], hP, by rw [cI_len]; omega, by rw [htk2]; exact hset _⟩, rfl⟩
    have hj0 : 0 < j := by omega
    have hjl : j - 1 < (sortI (xs.take i)).length := by omega
    have hwm : IntKind.i64.wrap ((j : Int) - 1) = ((j - 1 : Nat) : Int) := by rw [wrap_in (by omega) (by omega)]; omega
    obtain ⟨b0, g0, oi, oc, _, _, _⟩ := Own.at ho hjl
    have oc2 := cI_get hjl
    by_cases hlx : x < (sortI (xs.take i))[j - 1]
    · simp [-List.getD_eq_getElem?_getD, -Int.ofNat_toNat, -getElem?_pos, er30_0, er30_1, er30_2, er30_3, er30_4, er30_5, er30_6, er30_13, hj0, hwm, oi, oc, oc2, i1, g1, hlx]
      refine next_mk (j - 1) (by omega) ⟨j - 1, _, rfl, by omega, fun k hk hle => ?_, rfl⟩
      by_cases e : k = j - 1
      · subst e; exact hlx
      · exact hgt k hk (by omega)
    · have hor : j = 0 ∨ ∀ h : j - 1 < (sortI (xs.take i)).length, (sortI (xs.take i))[j - 1] ≤ x := .inr fun _ => by omega
      simp [-List.getD_eq_getElem?_getD, -Int.ofNat_toNat, -getElem?_pos, er30_0, er30_1, er30_2, er30_3, er30_4, er30_5, er30_6, er30_13, hj0, hwm, oi, oc, oc2, i1, g1, hlx]
      clear oi oc oc2
      obtain ⟨o', H1, x1, x2, x3, x4, x5, x6⟩ := ho.app1 0 (by simp) (by omega)
      rcases x2 with ⟨h0, _⟩ | ⟨h0, b, g, ex, rfl, hP, hl, hb⟩
      · simp at h0
      have hlt1 := lt_of_get hb
      rw [cI_append] at hb
      simp only [cI_cons, cI_nil] at hb
      have hl2 : (cI (sortI (xs.take i)) ++ [AV.int .i64 0]).length = i + 1 := by simp [cI_len, hsl]
      obtain ⟨r, hcp⟩ := x_copy_own (p := j) (n := i) (ex := ex) (ex2 := ex) (cl1 := i - j) (cl2 := i + 1 - j) hb hl2 hji (by rw [List.all_append, ones_cI]; rfl)
      have hic := ins_cells (sortI (xs.take i)) x j (by omega)
      rw [hsl] at hic
      have hcl : (setAt (cI (sortI (xs.take i)) ++ [AV.int .i64 0]) (j + 1) (((cI (sortI (xs.take i)) ++ [AV.int .i64 0]).drop j).take (i - j))).length = i + 1 := by
        rw [setAt_len (by simp [cI_len, hsl]; omega)]; simp [cI_len, hsl]
      have hset : ∀ z, (H1.set b z)[b]? = some z := fun z => List.getElem?_set_self hlt1
      have b1 : (0 : Int) ≤ (j : Int) + 1 := by omega
      have b2 : (j : Int) ≤ (i : Int) + 1 := by omega
      have b3 : j < i + 1 := by omega
      have htk2 : sortI (xs.take (i + 1)) = (sortI (xs.take i)).take j ++ x :: (sortI (xs.take i)).drop j := by
        rw [htk]; exact sortI_ins (by omega) hgt hor
      have hsl2 : (sortI (xs.take (i + 1))).length = i + 1 := by rw [sortI_len]; simp; omega
      simp [-List.getD_eq_getElem?_getD, -Int.ofNat_toNat, -getElem?_pos, er30_0, er30_1, er30_2, er30_3, er30_4, er30_5, er30_6, er30_8, er30_9, er30_10, er30_11, er30_13, x1, hsl, hwj, bounds3, intArg, hji, b1, b2, b3, hcp, i1, g1, hset, hcl, hic, hw]
      refine ⟨by omega, ?_⟩
      exact next_mk (m - 1) (by omega) ⟨i + 1, _, _, _, _, _, by omega, .inr ⟨by omega, b, g, ex, by rw [hsl2], hP, by rw [cI_len]; omega, by rw [htk2]; exact hset _⟩, rfl⟩
  · have hm : xs.take i = xs := List.take_of_length_le (by omega)
    rw [hm] at ho
    simp [-List.getD_eq_getElem?_getD, -Int.ofNat_toNat, -getElem?_pos, er30_0, er30_1, er30_2, er30_3, er30_4, er30_5, er30_6, er30_8, er30_9, er30_10, er30_11, er30_13, l1, hlt, ho.view, rv_false]
end Go.Ai.G
/- Functions of the program (package carcanetlaw03) as code of the abstract machine: written by a program of this session out of the elaborated operations. -/
namespace Go.Ai.G
set_option maxRecDepth 100000
set_option linter.unusedVariables false
/-! 0: carcanet/carcanetlaw03.shown: 0: 1:g 2:e 3:f 4:h 5:k 6:w 7:m 8:d -/
/-! 5: carcanet/carcanetlaw03.GraphNormal: 0:n 1:l 2: 3:head 4:g 5:e 6:h 7:f -/
/-! 14: carcanet/carcanetlaw03.GraphRight: 0:g 1:a 2:b 3:g 4: 5:head -/
/-! 19: carcanet/carcanetlaw03.GraphAdds: 0:g 1:a 2:b 3:g 4: 5:head 6:x 7:e 8:y 9:f 10:v 11:d 12:w 13:c -/
/-! 20: carcanet/carcanetlaw03.GraphSet: 0:n 1:l 2: 3:head 4:told 5:i 6:g 7:e 8:pairs 9:i 10:a 11:b 12: 13: 14: 15: 16: 17: 18: -/
/-! 21: carcanet/carcanetlaw03.GraphTurned: 0:n 1:l 2: 3:head 4:one 5:two 6:i 7:x 8:g 9:e 10:h 11:f 12:again 13:k 14: -/
/-! 24: carcanet/carcanetlaw03.GraphBack: 0:n 1:l 2:ends 3:ends 4: 5:head 6:g 7:a 8:b 9:was 10:had 11:x 12:e 13:y 14:f 15:again 16: 17: 18: -/
/-! 26: carcanet/carcanetlaw03.GraphSum: 0:n 1:l 2: 3:head 4:g 5:d 6:sum 7:v 8:near 9:i 10: 11: 12: 13: 14: -/
end Go.Ai.G
/- Functions of the program (package sub) as code of the abstract machine: written by a program of this session out of the elaborated operations. -/
namespace Go.Ai.G
set_option maxRecDepth 100000
set_option linter.unusedVariables false
/-! 40: carcanet/sub.Induced: 0:g 1:l 2:g 3: 4: 5:place 6:twice 7:i 8:v 9: 10: 11: 12: 13: 14: 15: -/
/-! 43: carcanet/sub.Delete: 0:g 1:v 2:g 3:v 4: 5: 6: 7: -/
/-! 45: carcanet/sub.Contract: 0:g 1:a 2:b 3:g 4: 5: 6:lo 7:hi 8: 9: 10: -/
/-! 53: carcanet/sub.Induced$1: 0:v 1: 2: -/
/-! 54: (carcanet/sub.names).renamed: 0:n 1:g 2:n 3:g 4: 5: 6:l 7:x 8:a 9:b 10: 11: 12: 13: 14: -/
/-! 56: carcanet/sub.Delete$1: 0:x 1: 2: 3: 4: -/
/-! 58: carcanet/sub.Contract$1: 0:x 1: 2: 3: 4: 5: -/
end Go.Ai.G
/- Functions of the program (package carcanetref05) as code of the abstract machine: written by a program of this session out of the elaborated operations. -/
namespace Go.Ai.G
set_option maxRecDepth 100000
set_option linter.unusedVariables false
/-! 55: carcanet/carcanetref05.Unlike: 0:l 1: 2:i 3:k 4: 5: 6: -/
end Go.Ai.G
/- Functions of the program (package carcanetref06) as code of the abstract machine: written by a program of this session out of the elaborated operations. -/
namespace Go.Ai.G
set_option maxRecDepth 100000
set_option linter.unusedVariables false
/-! 41: carcanet/carcanetref06.Induced: 0:g 1:l 2:g 3: 4: 5:i 6:out 7:a 8:b 9: 10: 11: 12: 13: 14: 15: -/
/-! 44: carcanet/carcanetref06.Delete: 0:g 1:v 2:g 3: 4: 5: 6: -/
/-! 46: carcanet/carcanetref06.Contract: 0:g 1:a 2:b 3:g 4: 5: 6:lo 7:hi 8:all 9:near 10:i 11:h 12:x 13:y 14:i 15: 16: 17: 18: 19: 20: 21: 22: 23: -/
/-! 57: carcanet/carcanetref06.Others: 0:n 1:v 2: 3:out 4:i 5: 6: -/
end Go.Ai.G
/- Functions of the program (package carcanetlaw06) as code of the abstract machine: written by a program of this session out of the elaborated operations. -/
namespace Go.Ai.G
set_option maxRecDepth 100000
set_option linter.unusedVariables false
/-! 38: carcanet/carcanetlaw06.shown: 0: 1:g 2:d 3:a 4:c 5:b 6:i 7:e 8:f -/
/-! 42: carcanet/carcanetlaw06.SubInduced: 0:x 1:l 2:x 3: 4:head 5:g 6:h 7:e 8:k 9:f -/
/-! 47: carcanet/carcanetlaw06.SubTells: 0:x 1:a 2:b 3:x 4: 5:head 6:g 7:h 8:e 9:k 10:f 11:m 12:c 13:n 14:d -/
/-! 48: carcanet/carcanetlaw06.SubWrong: 0:g 1:a 2:b 3:g 4: 5:head 6:may 7:h 8:e 9:i 10:f 11:j 12:c 13: -/
/-! 49: carcanet/carcanetlaw06.SubOrder: 0:x 1:by 2:x 3: 4:head 5:g 6:l 7:v 8:at 9:back 10:i 11:h 12:e 13:a 14:b 15:k 16:f 17: 18: 19: 20: 21: 22: 23: -/
/-! 50: carcanet/carcanetlaw06.SubLeaves: 0:x 1:a 2:b 3:x 4: 5:head 6:g 7:lo 8:hi 9:l 10:v 11:one 12:e 13:two 14:f 15:three 16:c 17:four 18:d 19:h 20:k 21: 22: 23: -/
/-! 51: carcanet/carcanetlaw06.SubTriangle: 0:x 1:ends 2:x 3:ends 4: 5:head 6:g 7:l 8:h 9:e 10:a 11:b 12:a2 13:c 14:d 15:f 16:d2 17:k 18:m 19:n 20:m2 21:o 22: 23: -/
/-! 52: carcanet/carcanetlaw06.SubCounts: 0:x 1:which 2:x 3: 4:head 5:g 6:y 7:near 8:both 9:i 10:c 11:e 12:d 13:f 14: 15: 16: -/
end Go.Ai.G
/- Rows of rows that lie in the memory, seen as values. -/
namespace Go.Ai
set_option linter.unusedVariables false
set_option linter.unusedSimpArgs false
theorem frz_ro : ∀ (bs : List Nat) {H : Heap} {b g : Nat} {c : List AV}, H[b]? = some (.cells g true c) → (frzH bs H)[b]? = some (.cells g true c)
  | [], H, b, g, c, h => h
  | d :: bs, H, b, g, c, h => by
    simp only [frzH]
    refine frz_ro bs ?_
    split
    · rename_i g' c' hd
      rw [List.getElem?_set_ne (fun e => by subst e; rw [h] at hd; cases hd)]; exact h
    · exact h
theorem frz_in : ∀ (bs : List Nat) {H : Heap} {b g : Nat} {ro : Bool} {c : List AV}, H[b]? = some (.cells g ro c) → b ∈ bs → (frzH bs H)[b]? = some (.cells g true c)
  | [], H, b, g, ro, c, h, hm => by simp at hm
  | d :: bs, H, b, g, ro, c, h, hm => by
    simp only [frzH]
    by_cases e : d = b
    · subst e
      refine frz_ro bs ?_
      cases ro
      · rw [h]; exact List.getElem?_set_self (lt_of_get h)
      · rw [h]; exact h
    · have hm' : b ∈ bs := by
        rcases List.mem_cons.1 hm with h | h
        · exact absurd h.symm e
        · exact h
      refine frz_in bs (ro := ro) ?_ hm'
      split
      · rw [List.getElem?_set_ne e]; exact h
      · exact h
theorem frz_out : ∀ (bs : List Nat) {H : Heap} {b : Nat}, b ∉ bs → (frzH bs H)[b]? = H[b]?
  | [], H, b, _ => rfl
  | d :: bs, H, b, hm => by
    simp only [List.mem_cons, not_or] at hm
    simp only [frzH]
    rw [frz_out bs hm.2]
    split
    · exact List.getElem?_set_ne (fun e => hm.1 e.symm)
    · rfl
/-- The value comes to r, once what it reaches is frozen; it reaches these objects. -/
def Sees (H : Heap) (v r : AV) (bs : List Nat) : Prop := reachV H 11 v = bs ∧ ∀ cs, (∀ b ∈ bs, b ∈ cs) → viewV (frzH cs H) 11 v = some r
theorem sees_closed {H : Heap} {v : AV} (h : v.closed = true) : Sees H v v [] := ⟨reachV_closed _ h, fun cs _ => viewV_closed _ h⟩
theorem Vw.sees {nl : Bool} {H : Heap} {v : AV} {sz n : Nat} {c : List AV} (h : Vw nl H v sz n c) (hc : AV.closeds c = true) (k : Nat) : reachV H (k + 1) v = (blkOf v).toList ∧ ∀ cs, (∀ b, blkOf v = some b → b ∈ cs) → viewV (frzH cs H) (k + 2) v = some (rv nl n sz c) := by
  refine ⟨h.reach hc k, fun cs hm => ?_⟩
  rcases h with ⟨rfl, rfl, h⟩ | ⟨h0, b, g, cl, ex, ro, rfl, h1, h2⟩
  · cases nl
    · obtain ⟨b, g, o, rfl⟩ := h
      rw [viewV_sl0]; simp [rv]
    · have : v = .nils := h
      subst this
      rw [viewV_closed _ rfl]; simp [rv]
  · have hb := frz_in cs h2 (hm b (by simp only [blkOf]; rw [if_neg (by omega)]))
    rw [viewV_sl (c := c) _ _ _ _ _ _ _ _ hb (by omega) (by omega) hc]
    simp [rv, show ¬ n = 0 by omega, ← h1]
theorem Vw.sees1 {nl : Bool} {H : Heap} {v : AV} {sz n : Nat} {c : List AV} (h : Vw nl H v sz n c) (hc : AV.closeds c = true) : Sees H v (rv nl n sz c) (blkOf v).toList :=
  ⟨(h.sees hc 10).1, fun cs hm => (h.sees hc 9).2 cs fun b hb => hm b (by rw [hb]; simp)⟩
/-- Cells that are rows. -/
def Rws (H : Heap) (rs : List AV) (xs : List (List Int)) : Prop := rs.length = xs.length ∧ ∀ (j : Nat) r x, rs[j]? = some r → xs[j]? = some x → Vw false H r 1 x.length (cI x)
theorem rws_nil (H : Heap) : Rws H [] [] := ⟨rfl, fun j r x h => by simp at h⟩
theorem Rws.tail {H : Heap} {r : AV} {rs : List AV} {x : List Int} {xs : List (List Int)} (h : Rws H (r :: rs) (x :: xs)) : Vw false H r 1 x.length (cI x) ∧ Rws H rs xs :=
  ⟨h.2 0 r x rfl rfl, by have := h.1; simpa using this, fun j r' x' h1 h2 => h.2 (j + 1) r' x' h1 h2⟩
theorem Rws.keep {H H' : Heap} {rs : List AV} {xs : List (List Int)} (h : Rws H rs xs) (hk : ∀ r ∈ rs, ∀ b, blkOf r = some b → H'[b]? = H[b]?) : Rws H' rs xs :=
  ⟨h.1, fun j r x h1 h2 => (h.2 j r x h1 h2).keep fun b hb => hk r (List.mem_of_getElem? h1) b hb⟩
theorem Rws.snoc {H : Heap} {rs : List AV} {xs : List (List Int)} (h : Rws H rs xs) {r : AV} {x : List Int} (hr : Vw false H r 1 x.length (cI x)) : Rws H (rs ++ [r]) (xs ++ [x]) := by
  refine ⟨by simp [h.1], fun j r' x' h1 h2 => ?_⟩
  by_cases hj : j < rs.length
  · rw [List.getElem?_append_left hj] at h1
    rw [List.getElem?_append_left (by rw [← h.1]; exact hj)] at h2
    exact h.2 j r' x' h1 h2
  · rw [List.getElem?_append_right (by omega)] at h1
    rw [List.getElem?_append_right (by rw [← h.1]; omega), ← h.1] at h2
    cases hk : j - rs.length with
    | zero => rw [hk] at h1 h2; simp at h1 h2; subst h1 h2; exact hr
    | succ k => rw [hk] at h1; simp at h1
theorem rws_sees {H : Heap} : ∀ {rs : List AV} {xs : List (List Int)}, Rws H rs xs → ∀ k, reachL H (k + 2) rs = rs.flatMap (fun r => (blkOf r).toList) ∧ ∀ cs, (∀ r ∈ rs, ∀ b, blkOf r = some b → b ∈ cs) → viewL (frzH cs H) (k + 3) rs = some (xs.map vI)
  | [], xs, h, k => by
    have : xs = [] := by have := h.1; simp at this; exact List.length_eq_zero_iff.1 this.symm
    subst this
    exact ⟨by rw [reachL_nil]; rfl, fun cs _ => by rw [viewL_nil]; rfl⟩
  | r :: rs, [], h, k => by have := h.1; simp at this
  | r :: rs, x :: xs, h, k => by
    obtain ⟨h1, h2⟩ := h.tail
    obtain ⟨e1, e2⟩ := rws_sees h2 k
    obtain ⟨f1, f2⟩ := h1.sees (closeds_cI x) k
    refine ⟨by rw [reachL_cons, f1, e1]; rfl, fun cs hm => ?_⟩
    rw [viewL_cons, f2 cs (fun b hb => hm r (by simp) b hb), e2 cs (fun r' hr' => hm r' (by simp [hr']))]
    simp [rv]
/-- A row of rows. -/
def VwR (nl : Bool) (H : Heap) (v : AV) (xs : List (List Int)) : Prop := ∃ rs, Vw nl H v 1 xs.length rs ∧ Rws H rs xs
theorem VwR.sees {nl : Bool} {H : Heap} {v : AV} {xs : List (List Int)} (h : VwR nl H v xs) : ∃ bs, Sees H v (rv nl xs.length 1 (xs.map vI)) bs := by
  obtain ⟨rs, hv, hr⟩ := h
  obtain ⟨e1, e2⟩ := rws_sees hr 8
  rcases hv with ⟨hn, rfl, h⟩ | ⟨h0, b, g, cl, ex, ro, rfl, h1, h2⟩
  · have hx : xs = [] := List.length_eq_zero_iff.1 hn
    subst hx
    cases nl
    · obtain ⟨b, g, o, rfl⟩ := h
      refine ⟨[], reachV_sl0 _ _ _ _ _ _ _, fun cs _ => ?_⟩
      rw [show ([] : List (List Int)).length = 0 from rfl, viewV_sl0]; simp [rv]
    · have : v = .nils := h
      subst this
      refine ⟨[], reachV_closed _ rfl, fun cs _ => ?_⟩
      rw [viewV_closed _ rfl]; simp [rv]
  · have hne : ¬ xs.length = 0 := by omega
    have hlen : rs.length = xs.length := hr.1
    have htk : (rs.drop 0).take (xs.length * 1) = rs := by rw [List.drop_zero, Nat.mul_one, ← hlen, List.take_length]
    refine ⟨b :: rs.flatMap (fun r => (blkOf r).toList), ?_, fun cs hm => ?_⟩
    · simp only [reachV, AV.closed, Bool.false_eq_true, if_false, reachOne, if_neg hne, h2]
      rw [htk, e1]
    · have hb := frz_in cs h2 (hm b (by simp))
      have hvl := e2 cs fun r hr' b' hb' => hm b' (by
        refine List.mem_cons_of_mem _ (List.mem_flatMap.2 ⟨r, hr', ?_⟩)
        rw [hb']; simp)
      rw [show (11 : Nat) = 10 + 1 from rfl]
      conv => lhs; simp only [viewV]
      simp only [AV.closed, Bool.false_eq_true, if_false, viewOne, if_neg hne, hb]
      rw [if_pos ⟨trivial, by omega⟩, htk]
      rw [show viewL (frzH cs H) 10 rs = viewL (frzH cs H) (7 + 3) rs from rfl, (rws_sees hr 7).2 cs fun r hr' b' hb' => hm b' (by
        refine List.mem_cons_of_mem _ (List.mem_flatMap.2 ⟨r, hr', ?_⟩)
        rw [hb']; simp)]
      simp [rv, hne]
theorem sees_a2 {H : Heap} {v u r s : AV} {bs cs : List Nat} (h : Sees H v r bs) (k : Sees H u s cs) : viewA H [v, u] = some ([r, s], frzH (bs ++ cs) H) := by
  have e : reachL H fuelV [v, u] = bs ++ cs := by
    rw [show fuelV = 11 + 1 from rfl, reachL_cons, reachL_cons, reachL_nil, h.1, k.1, List.append_nil]
  rw [viewA_def, e, show fuelV = 10 + 2 from rfl, viewL_cons, viewL_cons, viewL_nil]
  rw [h.2 (bs ++ cs) (fun b hb => List.mem_append_left _ hb), k.2 (bs ++ cs) (fun b hb => List.mem_append_right _ hb)]
  rfl
theorem sees_a1 {H : Heap} {v r : AV} {bs : List Nat} (h : Sees H v r bs) : viewA H [v] = some ([r], frzH bs H) := by
  have e : reachL H fuelV [v] = bs := by
    rw [show fuelV = 11 + 1 from rfl, reachL_cons, reachL_nil, h.1, List.append_nil]
  rw [viewA_def, e, show fuelV = 10 + 2 from rfl, viewL_cons, viewL_nil]
  rw [h.2 bs (fun b hb => hb)]
  rfl
/-- A row of rows that is one's own: the row itself, and its rows, lie from object P on. -/
def OwnR (nl : Bool) (P : Nat) (H : Heap) (v : AV) (xs : List (List Int)) : Prop := ∃ rs, Own nl P H v 1 xs.length rs ∧ Rws H rs xs ∧ ∀ r ∈ rs, ∀ b, blkOf r = some b → P ≤ b ∧ b < H.length ∧ blkOf v ≠ some b
theorem ownR_nil (P : Nat) (H : Heap) : OwnR true P H .nils [] := ⟨[], own_nil P H 1, rws_nil H, fun r hr => by simp at hr⟩
theorem ownR_empty (P : Nat) (H : Heap) (b g o : Nat) : OwnR false P H (.sl b g o 0 1 0 true) [] := ⟨[], own_empty P H 1 b g o, rws_nil H, fun r hr => by simp at hr⟩
theorem OwnR.vwR {nl : Bool} {P : Nat} {H : Heap} {v : AV} {xs : List (List Int)} (h : OwnR nl P H v xs) : VwR nl H v xs := by
  obtain ⟨rs, h1, h2, _⟩ := h
  exact ⟨rs, h1.vw, h2⟩
theorem OwnR.keep {nl : Bool} {P : Nat} {H H' : Heap} {v : AV} {xs : List (List Int)} (h : OwnR nl P H v xs) (hk : ∀ b, P ≤ b → b < H.length → H'[b]? = H[b]?) (hl : H.length ≤ H'.length) : OwnR nl P H' v xs := by
  obtain ⟨rs, h1, h2, h3⟩ := h
  exact ⟨rs, h1.keep fun b hb hbv => hk b (h1.blk hbv).1 hb, h2.keep fun r hr b hb => hk b (h3 r hr b hb).1 (h3 r hr b hb).2.1, fun r hr b hb => ⟨(h3 r hr b hb).1, by have := (h3 r hr b hb).2.1; omega, (h3 r hr b hb).2.2⟩⟩
theorem OwnR.app1 {nl : Bool} {P : Nat} {H : Heap} {v r : AV} {x : List Int} {xs : List (List Int)} (h : OwnR nl P H v xs) (hr : Vw false H r 1 x.length (cI x)) (hb : ∀ b, blkOf r = some b → P ≤ b ∧ b < H.length ∧ blkOf v ≠ some b) (hP : P ≤ H.length) (hn : xs.length < 1000000000000) :
    ∃ v' H', xstep (.app 1 24) [v, .sl H.length 0 0 1 1 1 true] (H ++ [.cells 0 false [r]]) = some (v', H') ∧ OwnR nl P H' v' (xs ++ [x]) ∧ (∀ b, b < P → H'[b]? = H[b]?) ∧ H.length + 1 ≤ H'.length ∧ v'.one = true ∧ v'.cells = [v'] := by
  obtain ⟨rs, h1, h2, h3⟩ := h
  obtain ⟨v', H', e1, e2, e3, e4, e5⟩ := Own.app1 (bytes := 24) (x := [r]) h1 rfl (by simp [hr.one]) hP (by omega)
  have k : ∀ s, (s ∈ rs ∨ s = r) → ∀ b, blkOf s = some b → P ≤ b ∧ b < H.length ∧ blkOf v ≠ some b := by
    rintro s (hs | rfl)
    · exact h3 s hs
    · exact hb
  refine ⟨v', H', e1, ⟨rs ++ [r], by simpa using e2, ?_, ?_⟩, fun b hb' => e3 b (by omega) (fun e => by have := (h1.blk e).1; omega), e4, e2.one, e2.cells⟩
  · refine (h2.snoc hr).keep fun s hs b hbs => ?_
    have := k s (by simpa using hs) b hbs
    exact e3 b this.2.1 this.2.2
  · intro s hs b hbs
    obtain ⟨k1, k2, k3⟩ := k s (by simpa using hs) b hbs
    refine ⟨k1, by omega, fun e => ?_⟩
    rcases e5 b e with h | h
    · exact k3 h
    · omega
end Go.Ai
