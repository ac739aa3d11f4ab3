/- A part of what the law leans on: the abstract machine, the contracts, the rows. -/
import Derived.Test.YtdpjeplagapdgaaK5
import Derived.Test.YtdpjeplagapdgaaK4
/- Rows of rows that lie in the memory, seen as values. -/
namespace Go.Ai
set_option linter.unusedVariables false
set_option linter.unusedSimpArgs false
theorem frz_ro : ∀ (bs : List Nat) {H : Heap} {b g : Nat} {c : List AV}, H[b]? = some (.cells g true c) → (frzH bs H)[b]? = some (.cells g true c)
  | [], H, b, g, c, h => h
  | d :: bs, H, b, g, c, h => by
    simp only [frzH]
    refine frz_ro bs ?_
    split
    · rename_i g' c' hd
      rw [List.getElem?_set_ne (fun e => by subst e; rw [h] at hd; cases hd)]; exact h
    · exact h
theorem frz_in : ∀ (bs : List Nat) {H : Heap} {b g : Nat} {ro : Bool} {c : List AV}, H[b]? = some (.cells g ro c) → b ∈ bs → (frzH bs H)[b]? = some (.cells g true c)
  | [], H, b, g, ro, c, h, hm => by simp at hm
  | d :: bs, H, b, g, ro, c, h, hm => by
    simp only [frzH]
    by_cases e : d = b
    · subst e
      refine frz_ro bs ?_
      cases ro
      · rw [h]; exact List.getElem?_set_self (lt_of_get h)
      · rw [h]; exact h
    · have hm' : b ∈ bs := by
        rcases List.mem_cons.1 hm with h | h
        · exact absurd h.symm e
        · exact h
      refine frz_in bs (ro := ro) ?_ hm'
      split
      · rw [List.getElem?_set_ne e]; exact h
      · exact h
theorem frz_out : ∀ (bs : List Nat) {H : Heap} {b : Nat}, b ∉ bs → (frzH bs H)[b]? = H[b]?
  | [], H, b, _ => rfl
  | d :: bs, H, b, hm => by
    simp only [List.mem_cons, not_or] at hm
    simp only [frzH]
    rw [frz_out bs hm.2]
    split
    · exact List.getElem?_set_ne (fun e => hm.1 e.symm)
    · rfl
/-- The value comes to r, once what it reaches is frozen; it reaches these objects. -/
def SeesF (d : Nat) (H : Heap) (v r : AV) (bs : List Nat) : Prop := ∀ k, d ≤ k → reachV H k v = bs ∧ ∀ cs, (∀ b ∈ bs, b ∈ cs) → viewV (frzH cs H) k v = some r
theorem SeesF.mono {d e : Nat} {H : Heap} {v r : AV} {bs : List Nat} (h : SeesF d H v r bs) (he : d ≤ e) : SeesF e H v r bs := fun k hk => h k (by omega)
theorem seesF_closed {H : Heap} {v : AV} (h : v.closed = true) : SeesF 1 H v v [] := fun k hk => by
  obtain ⟨m, rfl⟩ : ∃ m, k = m + 1 := ⟨k - 1, by omega⟩
  exact ⟨reachV_closed _ h, fun cs _ => viewV_closed _ h⟩
theorem Vw.seesF {nl : Bool} {H : Heap} {v : AV} {sz n : Nat} {c : List AV} (h : Vw nl H v sz n c) (hc : AV.closeds c = true) : SeesF 2 H v (rv nl n sz c) (blkOf v).toList := fun k hk => by
  obtain ⟨m, rfl⟩ : ∃ m, k = m + 2 := ⟨k - 2, by omega⟩
  refine ⟨h.reach hc (m + 1), fun cs hm => ?_⟩
  rcases h with ⟨rfl, rfl, h⟩ | ⟨h0, b, g, cl, ex, ro, rfl, h1, h2⟩
  · cases nl
    · obtain ⟨b, g, o, rfl⟩ := h
      rw [viewV_sl0]; simp [rv]
    · have : v = .nils := h
      subst this
      rw [viewV_closed _ rfl]; simp [rv]
  · have hb := frz_in cs h2 (hm b (by simp only [blkOf]; rw [if_neg (by omega)]; simp))
    rw [viewV_sl (c := c) _ _ _ _ _ _ _ _ hb (by omega) (by omega) hc]
    simp [rv, show ¬ n = 0 by omega, ← h1]
/-- Values in a row. -/
def SeesL (d : Nat) (H : Heap) (vs rs : List AV) (bs : List Nat) : Prop := ∀ k, d ≤ k → reachL H (k + 1) vs = bs ∧ ∀ cs, (∀ b ∈ bs, b ∈ cs) → viewL (frzH cs H) (k + 1) vs = some rs
theorem seesL_nil (H : Heap) : SeesL 0 H [] [] [] := fun k _ => ⟨reachL_nil k, fun cs _ => viewL_nil k⟩
theorem SeesL.cons {d : Nat} {H : Heap} {v r : AV} {vs rs : List AV} {bs cs : List Nat} (h : SeesF d H v r bs) (hl : SeesL d H vs rs cs) (hd : 1 ≤ d) : SeesL d H (v :: vs) (r :: rs) (bs ++ cs) := fun k hk => by
  obtain ⟨m, rfl⟩ : ∃ m, k = m + 1 := ⟨k - 1, by omega⟩
  obtain ⟨a1, a2⟩ := h (m + 1) hk
  obtain ⟨b1, b2⟩ := hl (m + 1) hk
  refine ⟨by rw [reachL_cons, a1, b1], fun ds hm => ?_⟩
  rw [viewL_cons, a2 ds (fun b hb => hm b (List.mem_append_left _ hb)), b2 ds (fun b hb => hm b (List.mem_append_right _ hb))]
theorem SeesL.mono {d e : Nat} {H : Heap} {v r : List AV} {bs : List Nat} (h : SeesL d H v r bs) (he : d ≤ e) : SeesL e H v r bs := fun k hk => h k (by omega)
theorem SeesL.agg {d : Nat} {H : Heap} {vs rs : List AV} {bs : List Nat} (h : SeesL d H vs rs bs) : SeesF (d + 2) H (.agg vs) (.agg rs) bs := fun k hk => by
  obtain ⟨m, rfl⟩ : ∃ m, k = m + 2 := ⟨k - 2, by omega⟩
  obtain ⟨a1, a2⟩ := h m (by omega)
  refine ⟨by rw [reachV_agg, a1], fun cs hm => ?_⟩
  rw [viewV_agg, a2 cs hm]; rfl
theorem SeesL.tup {d : Nat} {H : Heap} {vs rs : List AV} {bs : List Nat} (h : SeesL d H vs rs bs) : SeesF (d + 2) H (.tup vs) (.tup rs) bs := fun k hk => by
  obtain ⟨m, rfl⟩ : ∃ m, k = m + 2 := ⟨k - 2, by omega⟩
  obtain ⟨a1, a2⟩ := h m (by omega)
  refine ⟨by rw [reachV_tup, a1], fun cs hm => ?_⟩
  rw [viewV_tup, a2 cs hm]; rfl
theorem SeesF.iface {d : Nat} {H : Heap} {v r : AV} {bs : List Nat} (h : SeesF d H v r bs) (t : TypeId) : SeesF (d + 2) H (.iface t v) (.iface t r) bs := fun k hk => by
  obtain ⟨m, rfl⟩ : ∃ m, k = m + 2 := ⟨k - 2, by omega⟩
  obtain ⟨a1, a2⟩ := h (m + 1) (by omega)
  refine ⟨by rw [reachV_iface, a1], fun cs hm => ?_⟩
  rw [viewV_iface, a2 cs hm]; rfl
/-- As an answer. -/
theorem SeesF.vr {d : Nat} {H : Heap} {v r : AV} {bs : List Nat} (h : SeesF d H v r bs) (hd : d ≤ 12) : viewR H v = some r := by
  obtain ⟨a1, a2⟩ := h 12 hd
  rw [viewR_def, show fuelV = 12 from rfl, a1]
  exact a2 bs fun b hb => hb
/-- As arguments. -/
theorem SeesL.va {d : Nat} {H : Heap} {v r : List AV} {bs : List Nat} (h : SeesL d H v r bs) (hd : d ≤ 11) : viewA H v = some (r, frzH bs H) := by
  obtain ⟨a1, a2⟩ := h 11 hd
  rw [viewA_def, show fuelV = 11 + 1 from rfl, a1, a2 bs fun b hb => hb]
  rfl
/-- Cells that are rows, each of so many elements of sz cells. -/
def RwsG (nl : Bool) (sz : Nat) (H : Heap) (rs : List AV) (xs : List (Nat × List AV)) : Prop := rs.length = xs.length ∧ ∀ (j : Nat) r x, rs[j]? = some r → xs[j]? = some x → Vw nl H r sz x.1 x.2 ∧ AV.closeds x.2 = true
theorem rwsG_nil (nl : Bool) (sz : Nat) (H : Heap) : RwsG nl sz H [] [] := ⟨rfl, fun j r x h => by simp at h⟩
section
variable {nl : Bool} {sz : Nat}
theorem RwsG.tail {H : Heap} {r : AV} {rs : List AV} {x : Nat × List AV} {xs : List (Nat × List AV)} (h : RwsG nl sz H (r :: rs) (x :: xs)) : (Vw nl H r sz x.1 x.2 ∧ AV.closeds x.2 = true) ∧ RwsG nl sz H rs xs :=
  ⟨h.2 0 r x rfl rfl, by have := h.1; simpa using this, fun j r' x' h1 h2 => h.2 (j + 1) r' x' h1 h2⟩
theorem RwsG.keep {H H' : Heap} {rs : List AV} {xs : List (Nat × List AV)} (h : RwsG nl sz H rs xs) (hk : ∀ r ∈ rs, ∀ b, blkOf r = some b → H'[b]? = H[b]?) : RwsG nl sz H' rs xs :=
  ⟨h.1, fun j r x h1 h2 => ⟨(h.2 j r x h1 h2).1.keep fun b hb => hk r (List.mem_of_getElem? h1) b hb, (h.2 j r x h1 h2).2⟩⟩
theorem RwsG.snoc {H : Heap} {rs : List AV} {xs : List (Nat × List AV)} (h : RwsG nl sz H rs xs) {r : AV} {x : Nat × List AV} (hr : Vw nl H r sz x.1 x.2) (hc : AV.closeds x.2 = true) : RwsG nl sz H (rs ++ [r]) (xs ++ [x]) := by
  refine ⟨by simp [h.1], fun j r' x' h1 h2 => ?_⟩
  by_cases hj : j < rs.length
  · rw [List.getElem?_append_left hj] at h1
    rw [List.getElem?_append_left (by rw [← h.1]; exact hj)] at h2
    exact h.2 j r' x' h1 h2
  · rw [List.getElem?_append_right (by omega)] at h1
    rw [List.getElem?_append_right (by rw [← h.1]; omega), ← h.1] at h2
    cases hk : j - rs.length with
    | zero => rw [hk] at h1 h2; simp at h1 h2; subst h1 h2; exact ⟨hr, hc⟩
    | succ k => rw [hk] at h1; simp at h1
theorem rws_seesL {H : Heap} : ∀ {rs : List AV} {xs : List (Nat × List AV)}, RwsG nl sz H rs xs → SeesL 2 H rs (xs.map fun x => rv nl x.1 sz x.2) (rs.flatMap fun r => (blkOf r).toList)
  | [], xs, h => by
    have : xs = [] := by have := h.1; simp at this; exact List.length_eq_zero_iff.1 this.symm
    subst this
    exact (seesL_nil H).mono (by omega)
  | r :: rs, [], h => by have := h.1; simp at this
  | r :: rs, x :: xs, h => by
    obtain ⟨⟨h1, hc⟩, h2⟩ := h.tail
    exact SeesL.cons (h1.seesF hc) (rws_seesL h2) (by omega)
/-- A row of rows. -/
def VwG (nl il : Bool) (sz : Nat) (H : Heap) (v : AV) (xs : List (Nat × List AV)) : Prop := ∃ rs, Vw nl H v 1 xs.length rs ∧ RwsG il sz H rs xs
theorem VwG.sees {il : Bool} {H : Heap} {v : AV} {xs : List (Nat × List AV)} (h : VwG nl il sz H v xs) : ∃ bs, SeesF 4 H v (rv nl xs.length 1 (xs.map fun x => rv il x.1 sz x.2)) bs := by
  obtain ⟨rs, hv, hr⟩ := h
  have e := rws_seesL hr
  rcases hv with ⟨hn, rfl, h⟩ | ⟨h0, b, g, cl, ex, ro, rfl, h1, h2⟩
  · have hx : xs = [] := List.length_eq_zero_iff.1 hn
    subst hx
    refine ⟨[], fun k hk => ?_⟩
    obtain ⟨m, rfl⟩ : ∃ m, k = m + 1 := ⟨k - 1, by omega⟩
    cases nl
    · obtain ⟨b, g, o, rfl⟩ := h
      refine ⟨reachV_sl0 _ _ _ _ _ _ _, fun cs _ => ?_⟩
      rw [show ([] : List (Nat × List AV)).length = 0 from rfl, viewV_sl0]; simp [rv]
    · have : v = .nils := h
      subst this
      refine ⟨reachV_closed _ rfl, fun cs _ => ?_⟩
      rw [viewV_closed _ rfl]; simp [rv]
  · have hne : ¬ xs.length = 0 := by omega
    have hlen : rs.length = xs.length := hr.1
    have htk : (rs.drop 0).take (xs.length * 1) = rs := by rw [List.drop_zero, Nat.mul_one, ← hlen, List.take_length]
    refine ⟨b :: rs.flatMap (fun r => (blkOf r).toList), fun k hk => ?_⟩
    obtain ⟨m, rfl⟩ : ∃ m, k = m + 4 := ⟨k - 4, by omega⟩
    obtain ⟨e1, e2⟩ := e (m + 2) (by omega)
    refine ⟨?_, fun cs hm => ?_⟩
    · rw [show m + 4 = (m + 3) + 1 from rfl]
      simp only [reachV, AV.closed, Bool.false_eq_true, if_false, reachOne, if_neg hne, h2]
      rw [htk, e1]
    · have hb := frz_in cs h2 (hm b (by simp))
      have hvl := e2 cs fun b' hb' => hm b' (List.mem_cons_of_mem _ hb')
      rw [show m + 4 = (m + 3) + 1 from rfl]
      conv => lhs; simp only [viewV]
      simp only [AV.closed, Bool.false_eq_true, if_false, viewOne, if_neg hne, hb]
      rw [if_pos ⟨trivial, by omega⟩, htk, hvl]
      simp [rv, hne]
/-- A row of rows that is one's own: the row itself, and its rows, lie from object P on. -/
def OwnG (nl il : Bool) (sz P : Nat) (H : Heap) (v : AV) (xs : List (Nat × List AV)) : Prop := ∃ rs, Own nl P H v 1 xs.length rs ∧ RwsG il sz H rs xs ∧ ∀ r ∈ rs, ∀ b, blkOf r = some b → P ≤ b ∧ b < H.length ∧ blkOf v ≠ some b
theorem ownG_nil (il : Bool) (sz P : Nat) (H : Heap) : OwnG true il sz P H .nils [] := ⟨[], own_nil P H 1, rwsG_nil _ _ H, fun r hr => by simp at hr⟩
theorem ownG_empty (il : Bool) (sz P : Nat) (H : Heap) (b g o : Nat) : OwnG false il sz P H (.sl b g o 0 1 0 true) [] := ⟨[], own_empty P H 1 b g o, rwsG_nil _ _ H, fun r hr => by simp at hr⟩
theorem OwnG.vw {il : Bool} {P : Nat} {H : Heap} {v : AV} {xs : List (Nat × List AV)} (h : OwnG nl il sz P H v xs) : VwG nl il sz H v xs := by
  obtain ⟨rs, h1, h2, _⟩ := h
  exact ⟨rs, h1.vw, h2⟩
theorem OwnG.one {il : Bool} {P : Nat} {H : Heap} {v : AV} {xs : List (Nat × List AV)} (h : OwnG nl il sz P H v xs) : v.one = true := by obtain ⟨rs, h1, _⟩ := h; exact h1.one
theorem OwnG.cells {il : Bool} {P : Nat} {H : Heap} {v : AV} {xs : List (Nat × List AV)} (h : OwnG nl il sz P H v xs) : v.cells = [v] := by obtain ⟨rs, h1, _⟩ := h; exact h1.cells
theorem OwnG.part {il : Bool} {P : Nat} {H : Heap} {v : AV} {xs : List (Nat × List AV)} (h : OwnG nl il sz P H v xs) : v.part = true := by obtain ⟨rs, h1, _⟩ := h; exact h1.part
theorem OwnG.len {il : Bool} {P : Nat} {H : Heap} {v : AV} {xs : List (Nat × List AV)} (h : OwnG nl il sz P H v xs) (rd : Nat → Option Ob) : nstep .lenS [v] rd = some (.val (.int .i64 xs.length)) := by obtain ⟨rs, h1, _⟩ := h; exact h1.len rd
theorem OwnG.keep {il : Bool} {P : Nat} {H H' : Heap} {v : AV} {xs : List (Nat × List AV)} (h : OwnG nl il sz P H v xs) (hk : ∀ b, P ≤ b → b < H.length → H'[b]? = H[b]?) (hl : H.length ≤ H'.length) : OwnG nl il sz P H' v xs := by
  obtain ⟨rs, h1, h2, h3⟩ := h
  exact ⟨rs, h1.keep fun b hb hbv => hk b (h1.blk hbv).1 hb, h2.keep fun r hr b hb => hk b (h3 r hr b hb).1 (h3 r hr b hb).2.1, fun r hr b hb => ⟨(h3 r hr b hb).1, by have := (h3 r hr b hb).2.1; omega, (h3 r hr b hb).2.2⟩⟩
theorem OwnG.weak {il : Bool} {P P' : Nat} {H : Heap} {v : AV} {xs : List (Nat × List AV)} (h : OwnG nl il sz P H v xs) (hP : P' ≤ P) : OwnG nl il sz P' H v xs := by
  obtain ⟨rs, h1, h2, h3⟩ := h
  exact ⟨rs, h1.weak hP, h2, fun r hr b hb => ⟨by have := (h3 r hr b hb).1; omega, (h3 r hr b hb).2⟩⟩
theorem OwnG.app1 {il : Bool} {P : Nat} {H : Heap} {v r : AV} {x : Nat × List AV} {xs : List (Nat × List AV)} (h : OwnG nl il sz P H v xs) (hr : Vw il H r sz x.1 x.2) (hc : AV.closeds x.2 = true) (hb : ∀ b, blkOf r = some b → P ≤ b ∧ b < H.length ∧ blkOf v ≠ some b) (hP : P ≤ H.length) (hn : xs.length < 1000000000000) :
    ∃ v' H', xstep (.app 1 24) [v, .sl H.length 0 0 1 1 1 true] (H ++ [.cells 0 false [r]]) = some (v', H') ∧ OwnG nl il sz P H' v' (xs ++ [x]) ∧ (∀ b, b < P → H'[b]? = H[b]?) ∧ H.length + 1 ≤ H'.length ∧ v'.one = true ∧ v'.cells = [v'] := by
  obtain ⟨rs, h1, h2, h3⟩ := h
  obtain ⟨v', H', e1, e2, e3, e4, e5⟩ := Own.app1 (bytes := 24) (x := [r]) h1 rfl (by simp [hr.one]) hP (by omega)
  have k : ∀ s, (s ∈ rs ∨ s = r) → ∀ b, blkOf s = some b → P ≤ b ∧ b < H.length ∧ blkOf v ≠ some b := by
    rintro s (hs | rfl)
    · exact h3 s hs
    · exact hb
  refine ⟨v', H', e1, ⟨rs ++ [r], by simpa using e2, ?_, ?_⟩, fun b hb' => e3 b (by omega) (fun e => by have := (h1.blk e).1; omega), e4, e2.one, e2.cells⟩
  · refine (h2.snoc hr hc).keep fun s hs b hbs => ?_
    have := k s (by simpa using hs) b hbs
    exact e3 b this.2.1 this.2.2
  · intro s hs b hbs
    obtain ⟨k1, k2, k3⟩ := k s (by simpa using hs) b hbs
    refine ⟨k1, by omega, fun e => ?_⟩
    rcases e5 b e with h | h
    · exact k3 h
    · omega
end
/-! ### Rows of numbers -/
def eI (x : List Int) : Nat × List AV := (x.length, cI x)
theorem eI_rv (xs : List (List Int)) : ((xs.map eI).map fun x => rv false x.1 1 x.2) = xs.map vI := by
  rw [List.map_map]; exact List.map_congr_left fun x _ => by simp [eI, rv]
def OwnR (nl : Bool) (P : Nat) (H : Heap) (v : AV) (xs : List (List Int)) : Prop := OwnG nl false 1 P H v (xs.map eI)
theorem ownR_nil (P : Nat) (H : Heap) : OwnR true P H .nils [] := ownG_nil _ _ P H
theorem ownR_empty (P : Nat) (H : Heap) (b g o : Nat) : OwnR false P H (.sl b g o 0 1 0 true) [] := ownG_empty _ _ P H b g o
theorem OwnR.one {nl : Bool} {P : Nat} {H : Heap} {v : AV} {xs : List (List Int)} (h : OwnR nl P H v xs) : v.one = true := OwnG.one h
theorem OwnR.cells {nl : Bool} {P : Nat} {H : Heap} {v : AV} {xs : List (List Int)} (h : OwnR nl P H v xs) : v.cells = [v] := OwnG.cells h
theorem OwnR.part {nl : Bool} {P : Nat} {H : Heap} {v : AV} {xs : List (List Int)} (h : OwnR nl P H v xs) : v.part = true := OwnG.part h
theorem OwnR.seesF {nl : Bool} {P : Nat} {H : Heap} {v : AV} {xs : List (List Int)} (h : OwnR nl P H v xs) : ∃ bs, SeesF 4 H v (rv nl xs.length 1 (xs.map vI)) bs := by
  obtain ⟨bs, hs⟩ := (OwnG.vw h).sees
  rw [eI_rv, List.length_map] at hs
  exact ⟨bs, hs⟩
theorem OwnR.keep {nl : Bool} {P : Nat} {H H' : Heap} {v : AV} {xs : List (List Int)} (h : OwnR nl P H v xs) (hk : ∀ b, P ≤ b → b < H.length → H'[b]? = H[b]?) (hl : H.length ≤ H'.length) : OwnR nl P H' v xs := OwnG.keep h hk hl
theorem OwnR.weak {nl : Bool} {P P' : Nat} {H : Heap} {v : AV} {xs : List (List Int)} (h : OwnR nl P H v xs) (hP : P' ≤ P) : OwnR nl P' H v xs := OwnG.weak h hP
theorem OwnR.blk {nl : Bool} {P : Nat} {H : Heap} {v : AV} {xs : List (List Int)} (h : OwnR nl P H v xs) {b : Nat} (hb : blkOf v = some b) : P ≤ b ∧ b < H.length := by
  obtain ⟨rs, h1, _⟩ := h
  exact h1.blk hb
theorem OwnR.app1 {nl : Bool} {P : Nat} {H : Heap} {v r : AV} {x : List Int} {xs : List (List Int)} (h : OwnR nl P H v xs) (hr : Vw false H r 1 x.length (cI x)) (hb : ∀ b, blkOf r = some b → P ≤ b ∧ b < H.length ∧ blkOf v ≠ some b) (hP : P ≤ H.length) (hn : xs.length < 1000000000000) :
    ∃ v' H', xstep (.app 1 24) [v, .sl H.length 0 0 1 1 1 true] (H ++ [.cells 0 false [r]]) = some (v', H') ∧ OwnR nl P H' v' (xs ++ [x]) ∧ (∀ b, b < P → H'[b]? = H[b]?) ∧ H.length + 1 ≤ H'.length ∧ v'.one = true ∧ v'.cells = [v'] := by
  obtain ⟨v', H', e1, e2, e3⟩ := OwnG.app1 (x := eI x) h hr (closeds_cI x) hb hP (by rw [List.length_map]; exact hn)
  exact ⟨v', H', e1, by unfold OwnR; rw [List.map_append]; exact e2, e3⟩
end Go.Ai
/- A row of numbers that is read, wherever it lies. -/
namespace Go.Ai
set_option linter.unusedVariables false
set_option linter.unusedSimpArgs false
/-- The slice reads as these numbers; what it lies in is ahead of object P. -/
def RdI (P : Nat) (H : Heap) (v : AV) (xs : List Int) : Prop :=
  (v = .nils ∧ xs = []) ∨ v = .vs xs.length 1 (cI xs) ∨ ∃ b g o cl ex, v = .sl b g o xs.length 1 cl ex ∧ xs.length ≤ cl ∧ (xs ≠ [] → b < P ∧ ∃ ro c, H[b]? = some (.cells g ro c) ∧ o + xs.length ≤ c.length ∧ (c.drop o).take xs.length = cI xs)
variable {P : Nat} {H H' : Heap} {v : AV} {xs : List Int}
theorem IsI.rd (h : IsI v xs) : RdI P H v xs := by
  obtain ⟨_, _, ⟨rfl, h0⟩ | rfl⟩ := h
  · exact .inl ⟨rfl, List.length_eq_zero_iff.1 h0⟩
  · exact .inr (.inl rfl)
theorem Own.rd {nl : Bool} {Q : Nat} (h : OwnI nl Q H v xs) (hP : H.length ≤ P) : RdI P H v xs := by
  rcases h with ⟨h0, _, h⟩ | ⟨h0, b, g, ex, rfl, _, h1, h2⟩
  · have hx := List.length_eq_zero_iff.1 h0
    subst hx
    cases nl
    · obtain ⟨b, g, o, rfl⟩ := h
      exact .inr (.inr ⟨b, g, o, 0, true, rfl, Nat.le_refl _, fun h => absurd rfl h⟩)
    · have : v = .nils := h
      exact .inl ⟨this, rfl⟩
  · refine .inr (.inr ⟨b, g, 0, _, ex, rfl, Nat.le_refl _, fun _ => ⟨by have := lt_of_get h2; omega, false, _, h2, by rw [cI_len]; omega, ?_⟩⟩)
    rw [List.drop_zero, ← cI_len, List.take_length]
theorem RdI.keep (h : RdI P H v xs) (hk : ∀ b, b < P → H'[b]? = H[b]?) : RdI P H' v xs := by
  rcases h with h | h | ⟨b, g, o, cl, ex, h1, h2, h3⟩
  · exact .inl h
  · exact .inr (.inl h)
  · exact .inr (.inr ⟨b, g, o, cl, ex, h1, h2, fun hn => by
      obtain ⟨a1, ro, c, a2, a3⟩ := h3 hn
      exact ⟨a1, ro, c, by rw [hk b a1]; exact a2, a3⟩⟩)
theorem RdI.one (h : RdI P H v xs) : v.one = true := by rcases h with ⟨rfl, _⟩ | rfl | ⟨b, g, o, cl, ex, rfl, _⟩ <;> rfl
theorem RdI.cells (h : RdI P H v xs) : v.cells = [v] := by rcases h with ⟨rfl, _⟩ | rfl | ⟨b, g, o, cl, ex, rfl, _⟩ <;> rfl
theorem RdI.len (h : RdI P H v xs) (rd : Nat → Option Ob) : nstep .lenS [v] rd = some (.val (.int .i64 xs.length)) := by
  rcases h with ⟨rfl, rfl⟩ | rfl | ⟨b, g, o, cl, ex, rfl, _⟩ <;> rfl
theorem RdI.nnil (h : RdI P H v xs) (hn : v ≠ .nils) : v.isNilK 1 = some false := by
  rcases h with ⟨rfl, _⟩ | rfl | ⟨b, g, o, cl, ex, rfl, _⟩
  · exact absurd rfl hn
  · rfl
  · rfl
theorem RdI.ne (h : RdI P H v xs) (hx : xs ≠ []) : v ≠ .nils := by
  rcases h with ⟨rfl, h⟩ | rfl | ⟨b, g, o, cl, ex, rfl, _⟩
  · exact absurd h hx
  · simp
  · simp
theorem RdI.at (h : RdI P H v xs) {i : Nat} (hi : i < xs.length) : ∃ p, (∀ (k : IntKind) rd, nstep (.idx 1) [v, .int k (i : Int)] rd = some (.val p)) ∧ nstep .load1 [p] (fun b => H[b]?) = some (.val (.int .i64 xs[i])) := by
  rcases h with ⟨rfl, rfl⟩ | rfl | ⟨b, g, o, cl, ex, rfl, _, h3⟩
  · simp at hi
  · refine ⟨.vp (cI xs) i, fun k rd => ?_, ?_⟩
    · rw [n_idxV, if_pos ⟨rfl, by omega, by omega, by omega⟩]; simp
    · rw [n_load1V, cI_get hi]; rfl
  · obtain ⟨_, ro, c, h4, h5, h6⟩ := h3 (by intro e; subst e; simp at hi)
    refine ⟨.ptr b g (o + i), fun k rd => ?_, ?_⟩
    · rw [n_idx, if_pos ⟨by omega, by omega⟩]; simp
    · have hc : c[o + i]? = some (.int .i64 xs[i]) := by
        have := cI_get hi
        rw [← h6, List.getElem?_take, if_pos hi, List.getElem?_drop] at this
        exact this
      rw [n_load1]
      simp only [h4, if_true, hc]; rfl
theorem RdI.src (h : RdI P H v xs) : srcCells H 1 v = some (xs.length, cI xs) := by
  rcases h with ⟨rfl, rfl⟩ | rfl | ⟨b, g, o, cl, ex, rfl, _, h3⟩
  · rfl
  · exact src_vs H _ 1 _
  · by_cases hx : xs = []
    · subst hx; simp [srcCells, cI]
    · obtain ⟨_, ro, c, h4, h5, h6⟩ := h3 hx
      have hl : ¬ xs.length = 0 := fun e => hx (List.length_eq_zero_iff.1 e)
      simp [srcCells, rdSl, h4, hl, h5, h6]
theorem RdI.drop (h : RdI P H v xs) {n : Nat} (hn : n ≤ xs.length) : ∃ v', (∀ (k : IntKind) rd, nstep (.slc 1 true false false) [v, .int k (n : Int)] rd = some (.val v')) ∧ RdI P H v' (xs.drop n) ∧ (v ≠ .nils → v' ≠ .nils) := by
  rcases h with ⟨rfl, rfl⟩ | rfl | ⟨b, g, o, cl, ex, rfl, h2, h3⟩
  · have : n = 0 := by simpa using hn
    subst this
    exact ⟨.nils, fun k rd => by rw [n_slc0]; rfl, .inl ⟨rfl, rfl⟩, fun h => h⟩
  · refine ⟨.vs (xs.drop n).length 1 (cI (xs.drop n)), fun k rd => ?_, .inr (.inl rfl), fun _ => by simp⟩
    rw [n_slcV]
    have e : bounds3 xs.length xs.length true false false [.int k (n : Int)] = some (n, xs.length, xs.length) := by
      simp [bounds3, intArg]; omega
    rw [e]
    simp only [Option.map_some, Bool.false_eq_true, false_and, if_false, Nat.mul_one, cI_drop, List.length_drop]
    have : (cI (xs.drop n)).take (xs.length - n) = cI (xs.drop n) := by rw [← List.length_drop, ← cI_len, List.take_length]
    rw [this]
  · refine ⟨.sl b g (o + n) (xs.drop n).length 1 (cl - n) ex, fun k rd => ?_, .inr (.inr ⟨b, g, o + n, cl - n, ex, rfl, by simp; omega, fun hx => ?_⟩), fun _ => by simp⟩
    · rw [n_slc]
      have e : bounds3 xs.length cl true false false [.int k (n : Int)] = some (n, xs.length, cl) := by
        simp [bounds3, intArg]; omega
      rw [e]
      simp
    · obtain ⟨h4, ro, c, h5, h6, h7⟩ := h3 (by intro e; subst e; simp at hx)
      refine ⟨h4, ro, c, h5, by simp; omega, ?_⟩
      rw [← cI_drop, ← h7, List.drop_take, List.drop_drop, List.length_drop]
theorem RdI.take (h : RdI P H v xs) {n : Nat} (hn : n ≤ xs.length) : ∃ v', (∀ (k : IntKind) rd, nstep (.slc 1 false true false) [v, .int k (n : Int)] rd = some (.val v')) ∧ RdI P H v' (xs.take n) ∧ (v ≠ .nils → v' ≠ .nils) := by
  rcases h with ⟨rfl, rfl⟩ | rfl | ⟨b, g, o, cl, ex, rfl, h2, h3⟩
  · have : n = 0 := by simpa using hn
    subst this
    exact ⟨.nils, fun k rd => by rw [n_slc0]; rfl, .inl ⟨rfl, rfl⟩, fun h => h⟩
  · have hl : (xs.take n).length = n := by simp; omega
    refine ⟨.vs (xs.take n).length 1 (cI (xs.take n)), fun k rd => ?_, .inr (.inl rfl), fun _ => by simp⟩
    rw [n_slcV]
    have e : bounds3 xs.length xs.length false true false [.int k (n : Int)] = some (0, n, xs.length) := by
      simp [bounds3, intArg]; omega
    rw [e, hl]
    simp [cI_take]
  · have hl : (xs.take n).length = n := by simp; omega
    refine ⟨.sl b g o (xs.take n).length 1 cl ex, fun k rd => ?_, .inr (.inr ⟨b, g, o, cl, ex, rfl, by omega, fun hx => ?_⟩), fun _ => by simp⟩
    · rw [n_slc]
      have e : bounds3 xs.length cl false true false [.int k (n : Int)] = some (0, n, cl) := by
        simp [bounds3, intArg]; omega
      rw [e, hl]
      simp
    · obtain ⟨h4, ro, c, h5, h6, h7⟩ := h3 (by intro e; subst e; simp at hx)
      refine ⟨h4, ro, c, h5, by omega, ?_⟩
      rw [← cI_take, ← h7, List.take_take, hl, Nat.min_eq_left hn]
end Go.Ai
/- Behind a memory: what lies there, what is put there. -/
namespace Go.Ai
def decI : List AV → Option (List Int)
  | [] => some []
  | .int .i64 z :: r => (match decI r with | some l => some (z :: l) | none => none)
  | _ => none
theorem decI_cI : ∀ l : List Int, decI (cI l) = some l
  | [] => rfl
  | z :: l => by have := decI_cI l; simp only [cI, List.map_cons] at this ⊢; rw [decI, this]
theorem decI_spec : ∀ {c : List AV} {l : List Int}, decI c = some l → c = cI l
  | [], l, h => by simp only [decI, Option.some.injEq] at h; subst h; rfl
  | x :: c, l, h => by
    unfold decI at h
    split at h
    · rename_i h1; cases h1
    · rename_i z r heq
      cases heq
      split at h
      · rename_i l' hl'
        cases h
        rw [decI_spec hl']; rfl
      · cases h
    · cases h
end Go.Ai
namespace Go.Ai.G
open Go.Ai
theorem get_at (F J : Heap) (k : Nat) : (F ++ J)[F.length + k]? = J[k]? := by rw [List.getElem?_append_right (by omega)]; congr 1; omega
theorem get_at0 (F J : Heap) : (F ++ J)[F.length]? = J[0]? := get_at F J 0
theorem set_at (F J : Heap) (k : Nat) (x : Ob) : (F ++ J).set (F.length + k) x = F ++ J.set k x := by rw [List.set_append_right _ _ (by omega)]; congr 2; omega
theorem set_at0 (F J : Heap) (x : Ob) : (F ++ J).set F.length x = F ++ J.set 0 x := set_at F J 0 x
end Go.Ai.G
/- Functions of the program (package cmp) as code of the abstract machine: written by a program of this session out of the elaborated operations. -/
namespace Go.Ai.G
set_option maxRecDepth 100000
set_option linter.unusedVariables false
/-! 35: cmp.Compare[int]: 0:x 1:y 2: 3:xNaN 4:yNaN 5: 6: 7: 8: 9: -/
/-! 36: cmp.Or[int]: 0:vals 1: 2:zero 3:val 4: 5: 6: 7: 8: -/
/-! 37: cmp.isNaN[int]: 0:x 1: -/
end Go.Ai.G
/- Functions of the program (package graph) as code of the abstract machine: written by a program of this session out of the elaborated operations. -/
namespace Go.Ai.G
set_option maxRecDepth 100000
set_option linter.unusedVariables false
/-! 1: carcanet/graph.Normal: 0:n 1:l 2: 3: 4:all 5:x 6: 7: 8: 9: 10: 11: 12: 13: 14: -/
/-! 4: carcanet/graph.Right: 0:g 1:g 2: 3:i 4:x 5: 6: 7: 8: 9: 10: -/
/-! 12: carcanet/graph.Degrees: 0:g 1:g 2: 3:out 4:x 5: 6: 7: 8: 9: -/
/-! 15: carcanet/graph.Add: 0:g 1:a 2:b 3:g 4: 5: 6: 7: 8: -/
/-! 17: carcanet/graph.Without: 0:g 1:a 2:b 3:g 4: 5: 6:i 7: 8: -/
/-! 29: carcanet/graph.Normal$1: 0:x 1:y 2:x 3:y 4: -/
/-! 31: carcanet/graph.compare: 0:x 1:y 2:x 3:y 4: -/
end Go.Ai.G
namespace Go.Ai.G
open Go.Ai
set_option maxRecDepth 100000
set_option linter.unusedSimpArgs false
set_option linter.unusedVariables false
variable {A : AProg} {φ : Nat → Nat}
attribute [local simp ↓] getD_z getD_s hid_k hid_o hid_q hid_v PO_nil PO_none PO_grd PD_nil PD_none PD_grd PDO_N PDO_X PDO_call PDO_calli PDO_callv PSX_N PSX_X PSX_call PSX_calli PSX_callv PSX_inv
  PSX_callp PSX_panic PDO_inv PStep_inv thenC_pan blockC_pan loopC_pan endX_ret endX_norm endX_pan PStep_N PStep_X PStep_call PStep_calli PC_skip PC_lab PC_ret PC_exit PC_reg PC_draw
  PC_seq PC_block PC_loop PC_scope PC_cond thenC_norm thenC_ret thenC_exit blockC_norm blockC_ret blockC_exit loopC_norm loopC_ret loopC_exit endR_ret endR_norm
attribute [local simp] gz PDX_free PDX_eq KI_some n_mki n_tas0 PStep_callv resK_none resK_t resK_tt KNO_val KNO_new KNO_ite KNO_map KXO_some KXO_ite KVA_t KVA_f KG_skip KG_tt KG_ff KG_tf KG_ft KB_true
  KB_false KNOD_val KNOD_new KNOD_ite n_mv n_pick n_bin n_eqB n_eqN n_eqS n_un n_conv n_fadd n_faddV n_fld1 n_fldN n_idx n_idxA n_idxV n_idxAV n_ext n_lenS n_lenS0 n_lenV n_lenT
  n_lenA n_min n_max n_build n_mkfn n_slc n_slc0 n_slcV n_slcA n_load1 n_loadN n_load1V n_loadNV n_alloc n_box n_bsl n_mksl n_nilcP n_nilcV n_nilcI n_nilcF x_store x_clear0 x_clear
  b_add b_sub b_mul b_eql b_neq b_lss b_leq b_gtr b_geq b_and16 unV ntouch gather hide unhide evalOpd applyOuts int_bne int_beq ite_bool ite_int one_bool cells_bool one_int cells_int
  one_str cells_str one_nilp cells_nilp one_ptr cells_ptr one_nils cells_nils one_sl cells_sl one_nilf cells_nilf one_fn cells_fn one_nili cells_nili one_mp cells_mp one_nilm
  cells_nilm one_iface cells_iface one_vs cells_vs one_vp cells_vp cells_agg Nat.testBit setAt_1 setAt_2 closeds_nil closeds_cons closed_bool closed_int closed_str closed_nilp
  closed_nils closed_nilm closed_nilf closed_nili closed_agg closed_tup closed_vs closed_vp closed_iface closed_fn closeds_cI closeds_cE viewA_closed viewR_closed AV.scal AV.scal0
  fillA repA part_bool part_int part_str part_nilp part_ptr part_nils part_sl part_nilm part_mp part_nilf part_fn part_nili part_iface part_agg part_vs part_vp viewA_sl1 vaSl_cells
  wrap_0 wrap_1 wrap_2 wrap_m1 set_last get_last
def stepE (n : Int) (es : List Ed) (i : Nat) : Bool := decide (0 ≤ (es.getD i (0, 0)).1) && decide ((es.getD i (0, 0)).1 < (es.getD i (0, 0)).2) && decide ((es.getD i (0, 0)).2 < n) && (i == 0 || decide (cmpE (es.getD (i - 1) (0, 0)) (es.getD i (0, 0)) < 0))
def rightE (n : Int) (es : List Ed) : Bool := decide (0 ≤ n ∧ n ≤ 1000 ∧ es.length ≤ 4000) && (List.range es.length).all (stepE n es)
abbrev gV (n : Int) (v : AV) : AV := .agg [.int .i64 n, v]
end Go.Ai.G
namespace Go.Ai.G
open Go.Ai
set_option maxRecDepth 100000
set_option linter.unusedSimpArgs false
set_option linter.unusedVariables false
variable {A : AProg} {φ : Nat → Nat}
attribute [local simp ↓] getD_z getD_s hid_k hid_o hid_q hid_v PO_nil PO_none PO_grd PD_nil PD_none PD_grd PDO_N PDO_X PDO_call PDO_calli PDO_callv PSX_N PSX_X PSX_call PSX_calli PSX_callv PSX_inv
  PSX_callp PSX_panic PDO_inv PStep_inv thenC_pan blockC_pan loopC_pan endX_ret endX_norm endX_pan PStep_N PStep_X PStep_call PStep_calli PC_skip PC_lab PC_ret PC_exit PC_reg PC_draw
  PC_seq PC_block PC_loop PC_scope PC_cond thenC_norm thenC_ret thenC_exit blockC_norm blockC_ret blockC_exit loopC_norm loopC_ret loopC_exit endR_ret endR_norm
attribute [local simp] gz PDX_free PDX_eq KI_some n_mki n_tas0 PStep_callv resK_none resK_t resK_tt KNO_val KNO_new KNO_ite KNO_map KXO_some KXO_ite KVA_t KVA_f KG_skip KG_tt KG_ff KG_tf KG_ft KB_true
  KB_false KNOD_val KNOD_new KNOD_ite n_mv n_pick n_bin n_eqB n_eqN n_eqS n_un n_conv n_fadd n_faddV n_fld1 n_fldN n_idx n_idxA n_idxV n_idxAV n_ext n_lenS n_lenS0 n_lenV n_lenT
  n_lenA n_min n_max n_build n_mkfn n_slc n_slc0 n_slcV n_slcA n_load1 n_loadN n_load1V n_loadNV n_alloc n_box n_bsl n_mksl n_nilcP n_nilcV n_nilcI n_nilcF x_store x_clear0 x_clear
  b_add b_sub b_mul b_eql b_neq b_lss b_leq b_gtr b_geq b_and16 unV ntouch gather hide unhide evalOpd applyOuts int_bne int_beq ite_bool ite_int one_bool cells_bool one_int cells_int
  one_str cells_str one_nilp cells_nilp one_ptr cells_ptr one_nils cells_nils one_sl cells_sl one_nilf cells_nilf one_fn cells_fn one_nili cells_nili one_mp cells_mp one_nilm
  cells_nilm one_iface cells_iface one_vs cells_vs one_vp cells_vp cells_agg Nat.testBit setAt_1 setAt_2 closeds_nil closeds_cons closed_bool closed_int closed_str closed_nilp
  closed_nils closed_nilm closed_nilf closed_nili closed_agg closed_tup closed_vs closed_vp closed_iface closed_fn closeds_cI closeds_cE viewA_closed viewR_closed AV.scal AV.scal0
  fillA repA part_bool part_int part_str part_nilp part_ptr part_nils part_sl part_nilm part_mp part_nilf part_fn part_nili part_iface part_agg part_vs part_vp viewA_sl1 vaSl_cells
  wrap_0 wrap_1 wrap_2 wrap_m1 set_last get_last
theorem er11_0 (φ : Nat → Nat) : r11_0 φ = [
  ⟨0, .N .mv, [.c (.bool false)], none, 0⟩] := Eq.trans rfl rfl
theorem er11_1 (φ : Nat → Nat) : r11_1 φ = [
  ⟨0, .N .mv, [.n 0], none, 0⟩,
  ⟨1, .N .lenS, [.l 0], none, 0⟩,
  ⟨2, .N .mv, [.n 1], none, 0⟩,
  ⟨3, .N .lenS, [.l 0], none, 0⟩,
  ⟨4, .N (.bin .neq), [.l 2, .l 0], none, 0⟩] := Eq.trans rfl rfl
theorem er11_2 (φ : Nat → Nat) : r11_2 φ = [
  ⟨0, .N .mv, [.c (.bool false)], none, 0⟩] := Eq.trans rfl rfl
theorem er11_3 (φ : Nat → Nat) : r11_3 φ = [
  ⟨0, .N .mv, [.c (.int .i64 0)], none, 0⟩] := Eq.trans rfl rfl
theorem er11_4 (φ : Nat → Nat) : r11_4 φ = [
  ⟨0, .N .mv, [.n 3], none, 0⟩,
  ⟨1, .N .mv, [.n 0], none, 0⟩,
  ⟨2, .N .lenS, [.l 0], none, 0⟩,
  ⟨3, .N (.bin .lss), [.l 2, .l 0], none, 0⟩] := Eq.trans rfl rfl
theorem er11_5 (φ : Nat → Nat) : r11_5 φ = [
  ⟨0, .N .mv, [.n 0], none, 0⟩,
  ⟨1, .N .mv, [.n 3], none, 0⟩,
  ⟨2, .N (.idx 1), [.l 1, .l 0], none, 3⟩,
  ⟨3, .N .load1, [.l 0], none, 7⟩,
  ⟨4, .N .mv, [.n 1], none, 0⟩,
  ⟨5, .N .mv, [.n 3], none, 0⟩,
  ⟨6, .N (.idx 1), [.l 1, .l 0], none, 48⟩,
  ⟨7, .N .load1, [.l 0], none, 112⟩,
  ⟨8, .N (.bin .neq), [.l 4, .l 0], none, 255⟩] := Eq.trans rfl rfl
theorem er11_6 (φ : Nat → Nat) : r11_6 φ = [
  ⟨0, .N .mv, [.c (.bool false)], none, 0⟩] := Eq.trans rfl rfl
theorem er11_7 (φ : Nat → Nat) : r11_7 φ = [
  ⟨0, .N .mv, [.n 3], none, 0⟩,
  ⟨1, .N (.bin .add), [.l 0, .c (.int .i64 1)], none, 0⟩,
  ⟨2, .N .mv, [.l 0], none, 0⟩] := Eq.trans rfl rfl
theorem er11_9 (φ : Nat → Nat) : r11_9 φ = [
  ⟨0, .N .mv, [.c (.bool true)], none, 0⟩] := Eq.trans rfl rfl
theorem w_Same (h : Has A (φ 11) (f11 φ)) (v u : AV) (xs ys : List Int) (hv : IsI v xs) (hu : IsI u ys) (hn : xs.length < 1000000000000) : PVal A (φ 11) [v, u] (.bool (decide (xs = ys))) := by
  have l1 := hv.len; have l2 := hu.len
  refine pval_has h rfl ?_
  simp only [l11_8, b11, f11]
  by_cases hl : xs.length = ys.length
  · have hl' : (xs.length : Int) = ys.length := by omega
    simp [-List.getD_eq_getElem?_getD, -Int.ofNat_toNat, -getElem?_pos, er11_0, er11_1, er11_2, er11_3, er11_4, er11_5, er11_6, er11_7, er11_9, l1, l2, hl]
    refine pc_loopI (fun m st => ∃ (i : Nat) (q r : AV), i + m = xs.length ∧ xs.take i = ys.take i ∧ st = ([v, u, .bool false, .int .i64 i, .bool false, q, r], [])) xs.length ⟨0, _, _, by simp, by simp, rfl⟩ ?_
    rintro m st ⟨i, q, r, hi, hp, rfl⟩
    by_cases hlt : i < xs.length
    · obtain ⟨i1, g1⟩ := hv.at hlt
      obtain ⟨i2, g2⟩ := hu.at (i := i) (by omega)
      have hw := wrap1 hlt (by omega)
      have hlt' : (i : Int) < xs.length := by omega
      by_cases hx : xs[i] = ys[i]
      · simp [-List.getD_eq_getElem?_getD, -Int.ofNat_toNat, -getElem?_pos, er11_0, er11_1, er11_2, er11_3, er11_4, er11_5, er11_6, er11_7, er11_9, l1, hlt, i1, i2, g1, g2, hx, hw]
        refine next_mk (m - 1) (by omega) ⟨i + 1, _, _, by omega, ?_, rfl⟩
        rw [List.take_succ_eq_append_getElem hlt, List.take_succ_eq_append_getElem (by omega : i < ys.length), hp, hx]
      · have hr : ¬ xs = ys := fun h => hx (by simp [h])
        simp [-List.getD_eq_getElem?_getD, -Int.ofNat_toNat, -getElem?_pos, er11_0, er11_1, er11_2, er11_3, er11_4, er11_5, er11_6, er11_7, er11_9, l1, hlt, i1, i2, g1, g2, hx, hr]
    · have hm : i = xs.length := by omega
      have hr : xs = ys := by rw [hm, List.take_length] at hp; rw [hl, List.take_length] at hp; exact hp
      simp [-List.getD_eq_getElem?_getD, -Int.ofNat_toNat, -getElem?_pos, er11_0, er11_1, er11_2, er11_3, er11_4, er11_5, er11_6, er11_7, er11_9, l1, hlt, ← hr]
  · have hl' : ¬ (xs.length : Int) = ys.length := by omega
    have hr : ¬ xs = ys := fun h => hl (by rw [h])
    simp [-List.getD_eq_getElem?_getD, -Int.ofNat_toNat, -getElem?_pos, er11_0, er11_1, er11_2, er11_3, er11_4, er11_5, er11_6, er11_7, er11_9, l1, l2, hl', hr]
/-! ### Sorted -/
end Go.Ai.G
/- cert.source: one, count, row, rows; what they read. -/
namespace Go.Ai.G
open Go.Ai
set_option maxRecDepth 100000
set_option linter.unusedSimpArgs false
set_option linter.unusedVariables false
variable {A : AProg} {φ : Nat → Nat}
attribute [local simp ↓] getD_z getD_s hid_k hid_o hid_q hid_v PO_nil PO_none PO_grd PD_nil PD_none PD_grd PDO_N PDO_X PDO_call PDO_calli PDO_callv PSX_N PSX_X PSX_call PSX_calli PSX_callv PSX_inv
  PSX_callp PSX_panic PDO_inv PStep_inv thenC_pan blockC_pan loopC_pan endX_ret endX_norm endX_pan PStep_N PStep_X PStep_call PStep_calli PC_skip PC_lab PC_ret PC_exit PC_reg PC_draw
  PC_seq PC_block PC_loop PC_scope PC_cond thenC_norm thenC_ret thenC_exit blockC_norm blockC_ret blockC_exit loopC_norm loopC_ret loopC_exit endR_ret endR_norm
attribute [local simp] gz PDX_free PDX_eq KI_some n_mki n_tas0 PStep_callv resK_none resK_t resK_tt KNO_val KNO_new KNO_ite KNO_map KXO_some KXO_ite KVA_t KVA_f KG_skip KG_tt KG_ff KG_tf KG_ft KB_true
  KB_false KNOD_val KNOD_new KNOD_ite n_mv n_pick n_bin n_eqB n_eqN n_eqS n_un n_conv n_fadd n_faddV n_fld1 n_fldN n_idx n_idxA n_idxV n_idxAV n_ext n_lenS n_lenS0 n_lenV n_lenT
  n_lenA n_min n_max n_build n_mkfn n_slc n_slc0 n_slcV n_slcA n_load1 n_loadN n_load1V n_loadNV n_alloc n_box n_bsl n_mksl n_nilcP n_nilcV n_nilcI n_nilcF x_store x_clear0 x_clear
  b_add b_sub b_mul b_eql b_neq b_lss b_leq b_gtr b_geq b_and16 unV ntouch gather hide unhide evalOpd applyOuts int_bne int_beq ite_bool ite_int one_bool cells_bool one_int cells_int
  one_str cells_str one_nilp cells_nilp one_ptr cells_ptr one_nils cells_nils one_sl cells_sl one_nilf cells_nilf one_fn cells_fn one_nili cells_nili one_mp cells_mp one_nilm
  cells_nilm one_iface cells_iface one_vs cells_vs one_vp cells_vp cells_agg Nat.testBit setAt_1 setAt_2 closeds_nil closeds_cons closed_bool closed_int closed_str closed_nilp
  closed_nils closed_nilm closed_nilf closed_nili closed_agg closed_tup closed_vs closed_vp closed_iface closed_fn closeds_cI closeds_cE viewA_closed viewR_closed AV.scal AV.scal0
  fillA repA part_bool part_int part_str part_nilp part_ptr part_nils part_sl part_nilm part_mp part_nilf part_fn part_nili part_iface part_agg part_vs part_vp viewA_sl1 vaSl_cells
  wrap_0 wrap_1 wrap_2 wrap_m1 set_last get_last
theorem er124_0 (φ : Nat → Nat) : r124_0 φ = [
  ⟨0, .N .mv, [.c (.int .i64 0)], none, 0⟩] := Eq.trans rfl rfl
theorem er124_1 (φ : Nat → Nat) : r124_1 φ = [
  ⟨0, .N .mv, [.n 0], none, 0⟩,
  ⟨1, .N .nilc, [.l 0], none, 0⟩,
  ⟨2, .N (.fadd 0), [.l 0], none, 0⟩,
  ⟨3, .N .load1, [.l 0], none, 0⟩,
  ⟨4, .N .lenS, [.l 0], none, 0⟩,
  ⟨5, .N (.bin .eql), [.l 0, .c (.int .i64 0)], none, 0⟩] := Eq.trans rfl rfl
theorem er124_2 (φ : Nat → Nat) : r124_2 φ = [
  ⟨0, .N (.build [] []), [], none, 0⟩,
  ⟨1, .N (.mki (φ 129)), [.l 0], none, 0⟩,
  ⟨2, .panic, [.l 0], none, 0⟩] := Eq.trans rfl rfl
theorem er124_3 (φ : Nat → Nat) : r124_3 φ = [
  ⟨0, .N .mv, [.n 0], none, 0⟩,
  ⟨1, .N .nilc, [.l 0], none, 0⟩,
  ⟨2, .N (.fadd 0), [.l 0], none, 0⟩,
  ⟨3, .N .load1, [.l 0], none, 0⟩,
  ⟨4, .N (.idx 1), [.l 0, .c (.int .i64 0)], none, 0⟩,
  ⟨5, .N .load1, [.l 0], none, 0⟩,
  ⟨6, .N .mv, [.l 0], none, 0⟩] := Eq.trans rfl rfl
theorem er124_4 (φ : Nat → Nat) : r124_4 φ = [
  ⟨0, .N .mv, [.n 0], none, 0⟩,
  ⟨1, .N .mv, [.n 0], none, 0⟩,
  ⟨2, .N .nilc, [.l 0], none, 0⟩,
  ⟨3, .N (.fadd 0), [.l 0], none, 0⟩,
  ⟨4, .N .load1, [.l 0], none, 0⟩,
  ⟨5, .N (.slc 1 true false false), [.l 0, .c (.int .i64 1)], none, 0⟩,
  ⟨6, .N .nilc, [.l 5], none, 0⟩,
  ⟨7, .N (.fadd 0), [.l 0], none, 0⟩,
  ⟨8, .X (.store 1), [.l 0, .l 2], none, 0⟩] := Eq.trans rfl rfl
theorem er124_5 (φ : Nat → Nat) : r124_5 φ = [
  ⟨0, .N .mv, [.n 2], none, 0⟩,
  ⟨1, .N .mv, [.l 0], none, 0⟩] := Eq.trans rfl rfl
theorem er127_0 (φ : Nat → Nat) : r127_0 φ = [
  ⟨0, .N .mv, [.c (.int .i64 0)], none, 0⟩] := Eq.trans rfl rfl
theorem er127_1 (φ : Nat → Nat) : r127_1 φ = [
  ⟨0, .N .mv, [.n 0], none, 0⟩,
  ⟨1, .callp (φ 124), [.l 0], none, 0⟩,
  ⟨2, .N .mv, [.l 0], none, 0⟩] := Eq.trans rfl rfl
theorem er127_2 (φ : Nat → Nat) : r127_2 φ = [
  ⟨0, .N .mv, [.n 3], none, 0⟩,
  ⟨1, .N (.bin .lss), [.l 0, .c (.int .i64 0)], none, 0⟩,
  ⟨2, .N .mv, [.l 0], none, 0⟩,
  ⟨3, .N .mv, [.n 3], some (.l 0, false), 0⟩,
  ⟨4, .N .mv, [.n 0], some (.l 1, false), 0⟩,
  ⟨5, .N .nilc, [.l 0], some (.l 2, false), 0⟩,
  ⟨6, .N (.fadd 0), [.l 0], some (.l 3, false), 0⟩,
  ⟨7, .N .load1, [.l 0], some (.l 4, false), 0⟩,
  ⟨8, .N .lenS, [.l 0], some (.l 5, false), 0⟩,
  ⟨9, .N .mv, [.n 1], some (.l 6, false), 0⟩,
  ⟨10, .N (.bin .quo), [.l 1, .l 0], some (.l 7, false), 0⟩,
  ⟨11, .N (.bin .gtr), [.l 7, .l 0], some (.l 8, false), 0⟩,
  ⟨12, .N .pick, [.l 9, .c (.bool true), .l 0], none, 0⟩] := Eq.trans rfl rfl
theorem er127_3 (φ : Nat → Nat) : r127_3 φ = [
  ⟨0, .N (.build [] []), [], none, 0⟩,
  ⟨1, .N (.mki (φ 129)), [.l 0], none, 0⟩,
  ⟨2, .panic, [.l 0], none, 0⟩] := Eq.trans rfl rfl
theorem er127_4 (φ : Nat → Nat) : r127_4 φ = [
  ⟨0, .N .mv, [.n 3], none, 0⟩,
  ⟨1, .N .mv, [.l 0], none, 0⟩] := Eq.trans rfl rfl
theorem er125_0 (φ : Nat → Nat) : r125_0 φ = [
  ⟨0, .N .mv, [.c (.nils)], none, 0⟩] := Eq.trans rfl rfl
theorem er125_1 (φ : Nat → Nat) : r125_1 φ = [
  ⟨0, .N .mv, [.n 0], none, 0⟩,
  ⟨1, .callp (φ 127), [.l 0, .c (.int .i64 1)], none, 0⟩,
  ⟨2, .N .mv, [.l 0], none, 0⟩] := Eq.trans rfl rfl
theorem er125_2 (φ : Nat → Nat) : r125_2 φ = [
  ⟨0, .N .mv, [.n 0], none, 0⟩,
  ⟨1, .N .nilc, [.l 0], none, 0⟩,
  ⟨2, .N (.fadd 0), [.l 0], none, 0⟩,
  ⟨3, .N .load1, [.l 0], none, 0⟩,
  ⟨4, .N .mv, [.n 2], none, 0⟩,
  ⟨5, .N (.slc 1 false true false), [.l 1, .l 0], none, 0⟩,
  ⟨6, .call (φ 122), [.l 0], none, 0⟩,
  ⟨7, .N .mv, [.l 0], none, 0⟩] := Eq.trans rfl rfl
theorem er125_3 (φ : Nat → Nat) : r125_3 φ = [
  ⟨0, .N .mv, [.n 0], none, 0⟩,
  ⟨1, .N .mv, [.n 0], none, 0⟩,
  ⟨2, .N .nilc, [.l 0], none, 0⟩,
  ⟨3, .N (.fadd 0), [.l 0], none, 0⟩,
  ⟨4, .N .load1, [.l 0], none, 0⟩,
  ⟨5, .N .mv, [.n 2], none, 0⟩,
  ⟨6, .N (.slc 1 true false false), [.l 1, .l 0], none, 0⟩,
  ⟨7, .N .nilc, [.l 6], none, 0⟩,
  ⟨8, .N (.fadd 0), [.l 0], none, 0⟩,
  ⟨9, .X (.store 1), [.l 0, .l 2], none, 0⟩] := Eq.trans rfl rfl
theorem er125_4 (φ : Nat → Nat) : r125_4 φ = [
  ⟨0, .N .mv, [.n 3], none, 0⟩,
  ⟨1, .N .mv, [.l 0], none, 0⟩] := Eq.trans rfl rfl
theorem er126_0 (φ : Nat → Nat) : r126_0 φ = [
  ⟨0, .N .mv, [.c (.nils)], none, 0⟩] := Eq.trans rfl rfl
theorem er126_1 (φ : Nat → Nat) : r126_1 φ = [
  ⟨0, .N .mv, [.c (.nils)], none, 0⟩] := Eq.trans rfl rfl
theorem er126_2 (φ : Nat → Nat) : r126_2 φ = [
  ⟨0, .N .mv, [.n 0], none, 0⟩,
  ⟨1, .callp (φ 127), [.l 0, .c (.int .i64 1)], none, 0⟩,
  ⟨2, .N .mv, [.c (.int .i64 0)], none, 0⟩] := Eq.trans rfl rfl
theorem er126_3 (φ : Nat → Nat) : r126_3 φ = [
  ⟨0, .N (.bin .lss), [.n 4, .n 3], none, 0⟩] := Eq.trans rfl rfl
theorem er126_4 (φ : Nat → Nat) : r126_4 φ = [
  ⟨0, .N .mv, [.n 2], none, 0⟩,
  ⟨1, .N .mv, [.n 0], none, 0⟩,
  ⟨2, .callp (φ 125), [.l 0], none, 0⟩,
  ⟨3, .N (.bsl [.nils] 1 1 [(0, 1)]), [.l 0], none, 0⟩,
  ⟨4, .X (.app 1 24), [.l 3, .l 0], none, 0⟩,
  ⟨5, .N .mv, [.l 0], none, 0⟩] := Eq.trans rfl rfl
theorem er126_5 (φ : Nat → Nat) : r126_5 φ = [
  ⟨0, .N (.bin .add), [.n 4, .c (.int .i64 1)], none, 0⟩,
  ⟨1, .N .mv, [.l 0], none, 0⟩] := Eq.trans rfl rfl
theorem er126_7 (φ : Nat → Nat) : r126_7 φ = [
  ⟨0, .N .mv, [.n 2], none, 0⟩,
  ⟨1, .N .mv, [.l 0], none, 0⟩] := Eq.trans rfl rfl
theorem er122_0 (φ : Nat → Nat) : r122_0 φ = [
  ⟨0, .N .mv, [.c (.nils)], none, 0⟩] := Eq.trans rfl rfl
theorem er122_1 (φ : Nat → Nat) : r122_1 φ = [
  ⟨0, .N .mv, [.n 0], none, 0⟩,
  ⟨1, .N (.eqN 1 false), [.l 0, .c (.nils)], none, 0⟩] := Eq.trans rfl rfl
theorem er122_2 (φ : Nat → Nat) : r122_2 φ = [
  ⟨0, .N .mv, [.c (.nils)], none, 0⟩] := Eq.trans rfl rfl
theorem er122_3 (φ : Nat → Nat) : r122_3 φ = [
  ⟨0, .N (.bsl [.int .i64 0] 0 1 []), [], none, 0⟩,
  ⟨1, .N .mv, [.n 0], none, 0⟩,
  ⟨2, .X (.app 1 8), [.l 1, .l 0], none, 0⟩,
  ⟨3, .N .mv, [.l 0], none, 0⟩] := Eq.trans rfl rfl
/-- A source of numbers at q. -/
def SrcS (nn : Bool) (P q : Nat) (H : Heap) (xs : List Int) : Prop := ∃ v, H[q]? = some (.cells 0 false [v]) ∧ RdI P H v xs ∧ P ≤ q ∧ (nn = true → v ≠ .nils)
/-- All but object q lies as it lay. -/
def Fr (q : Nat) (H H' : Heap) : Prop := (∀ k, k ≠ q → k < H.length → H'[k]? = H[k]?) ∧ H.length ≤ H'.length
theorem Fr.refl (q : Nat) (H : Heap) : Fr q H H := ⟨fun _ _ _ => rfl, Nat.le_refl _⟩
theorem Fr.trans {q : Nat} {H H1 H2 : Heap} (h : Fr q H H1) (k : Fr q H1 H2) : Fr q H H2 := ⟨fun i hi hl => (k.1 i hi (by have := h.2; omega)).trans (h.1 i hi hl), Nat.le_trans h.2 k.2⟩
theorem Fr.setN {q : Nat} {H H' : Heap} (h : Fr q H H') {b : Nat} (hb : H.length ≤ b) (o : Ob) : Fr q H (H'.set b o) := ⟨fun k hk hl => by rw [List.getElem?_set_ne (by omega)]; exact h.1 k hk hl, by have := h.2; simp; omega⟩
theorem Fr.app {q : Nat} {H H' : Heap} (h : Fr q H H') (J : Heap) : Fr q H (H' ++ J) := ⟨fun k hk hl => by rw [List.getElem?_append_left (by have := h.2; omega)]; exact h.1 k hk hl, by have := h.2; simp; omega⟩
theorem Fr.set (q : Nat) (H : Heap) (o : Ob) : Fr q H (H.set q o) := ⟨fun k hk _ => List.getElem?_set_ne (fun e => hk e.symm), by simp⟩
theorem SrcS.keep {nn : Bool} {P q : Nat} {H H' : Heap} {xs : List Int} (s : SrcS nn P q H xs) (h : ∀ k, k ≤ q → H'[k]? = H[k]?) : SrcS nn P q H' xs := by
  obtain ⟨v, h1, h2, h3, h4⟩ := s
  exact ⟨v, (h q (Nat.le_refl _)).trans h1, h2.keep fun b hb => h b (by omega), h3, h4⟩
theorem SrcS.lt {nn : Bool} {P q : Nat} {H : Heap} {xs : List Int} (s : SrcS nn P q H xs) : q < H.length := by
  obtain ⟨v, h1, _⟩ := s
  exact lt_of_get h1
set_option maxHeartbeats 1000000 in
theorem w_one (h : Has A (φ 124) (f124 φ)) {nn : Bool} {P q : Nat} {H : Heap} {xs : List Int} (s : SrcS nn P q H xs) (K Kp : AV → Heap → Prop)
    (hK : ∀ x t H', xs = x :: t → SrcS true P q H' t → Fr q H H' → K (.int .i64 x) H') (hp : xs = [] → ∀ t u, Kp (.iface t u) H) : PCallE A (φ 124) [.ptr q 0 0] H K Kp := by
  obtain ⟨v, hb, hr, hP, hnn⟩ := s
  have hl := hr.len
  have hq := lt_of_get hb
  refine pcallE_has h rfl ?_
  simp only [b124, f124]
  cases xs with
  | nil =>
    have hl0 : ∀ rd, nstep .lenS [v] rd = some (.val (.int .i64 0)) := hl
    simp [-List.getD_eq_getElem?_getD, -Int.ofNat_toNat, -getElem?_pos, er124_0, er124_1, er124_2, er124_3, er124_4, er124_5, hb, hl0]
    exact hp rfl _ _
  | cons x t =>
    have hl1 : ¬ (((x :: t).length : Nat) : Int) = 0 := by simp; omega
    have hl2 : ¬ (x :: t).length = 0 := by simp
    obtain ⟨p, i1, i2⟩ := hr.at (i := 0) (by simp)
    have i1' : ∀ (k : IntKind) rd, nstep (.idx 1) [v, .int k 0] rd = some (.val p) := i1
    obtain ⟨v', d1, d2, d3⟩ := hr.drop (n := 1) (by simp)
    have d1' : ∀ (k : IntKind) rd, nstep (.slc 1 true false false) [v, .int k 1] rd = some (.val v') := d1
    have hne := hr.ne (by simp)
    have h1 := d2.one
    have h2 := d2.cells
    have hKx := hK x t (H.set q (.cells 0 false [v'])) rfl ⟨v', List.getElem?_set_self hq, d2.keep fun b hb' => List.getElem?_set_ne (by omega), hP, fun _ => d3 hne⟩ (Fr.set _ _ _)
    generalize (x :: t).length = m at *
    simp only [List.getElem_cons_zero] at i2
    simp [-List.getD_eq_getElem?_getD, -Int.ofNat_toNat, -getElem?_pos, er124_0, er124_1, er124_2, er124_3, er124_4, er124_5, hb, hl, hl1, hl2, i1', i2, d1', h1, h2, resK, resVs, resV, pack]
    exact hKx
/-- How many follow. -/
def cntP (each : Nat) : List Int → Option (Nat × List Int)
  | [] => none
  | n :: r => if 0 ≤ n ∧ n ≤ ((r.length / each : Nat) : Int) then some (n.toNat, r) else none
theorem w_count (h : Has A (φ 127) (f127 φ)) (h1 : Has A (φ 124) (f124 φ)) {nn : Bool} {P q : Nat} {H : Heap} {xs : List Int} (s : SrcS nn P q H xs) (each : Nat) (he : 0 < each) (he2 : each < 1000) (hn : xs.length < 1000000000000) (K Kp : AV → Heap → Prop)
    (hK : ∀ n t H', cntP each xs = some (n, t) → SrcS true P q H' t → Fr q H H' → n * each ≤ t.length → t.length < xs.length → K (.int .i64 (n : Nat)) H') (hp : cntP each xs = none → ∀ t u H', Kp (.iface t u) H') : PCallE A (φ 127) [.ptr q 0 0, .int .i64 each] H K Kp := by
  refine pcallE_has h rfl ?_
  simp only [b127, f127]
  simp [-List.getD_eq_getElem?_getD, -Int.ofNat_toNat, -getElem?_pos, er127_0, er127_1, er127_2, er127_3, er127_4]
  refine w_one h1 s _ _ ?_ fun e => ?_
  · intro x t H' e s1 f1
    simp only [hid_k]
    subst e
    obtain ⟨v, hb, hr, hP, hnn⟩ := s1
    have hl := hr.len
    have he0 : ¬ (each : Int) = 0 := by omega
    have hq := b_quo .i64 (t.length : Int) (each : Int) he0
    have hdiv : ((t.length : Int)).tdiv (each : Int) = ((t.length / each : Nat) : Int) := by rw [Int.tdiv_eq_ediv_of_nonneg (by omega)]; simp
    have hdl : t.length / each ≤ t.length := Nat.div_le_self _ _
    have hdm : t.length / each * each ≤ t.length := Nat.div_mul_le_self _ _
    simp only [List.length_cons] at hn
    rw [hdiv] at hq
    have hcnt : cntP each (x :: t) = if 0 ≤ x ∧ x ≤ ((t.length / each : Nat) : Int) then some (x.toNat, t) else none := rfl
    rw [hcnt] at hK hp
    generalize t.length / each = dv at *
    have hw : IntKind.i64.wrap (dv : Int) = (dv : Int) := wrap_in (by omega) (by omega)
    rw [hw] at hq
    by_cases c1 : x < 0
    · rw [if_neg (by omega)] at hp
      simp [-List.getD_eq_getElem?_getD, -Int.ofNat_toNat, -getElem?_pos, er127_0, er127_1, er127_2, er127_3, er127_4, c1]
      exact hp rfl _ _ _
    · by_cases c2 : x ≤ (dv : Int)
      · rw [if_pos ⟨by omega, c2⟩] at hK
        have hmul : x.toNat * each ≤ t.length := Nat.le_trans (Nat.mul_le_mul_right _ (by omega : x.toNat ≤ dv)) hdm
        have hk := hK _ _ H' rfl ⟨v, hb, hr, hP, hnn⟩ f1 hmul (by simp)
        have hxt : ((x.toNat : Nat) : Int) = x := by omega
        rw [hxt] at hk
        have c3 : ¬ (dv : Int) < x := by omega
        simp [-List.getD_eq_getElem?_getD, -Int.ofNat_toNat, -getElem?_pos, er127_0, er127_1, er127_2, er127_3, er127_4, c1, hb, hl, hq, c3, resK, resVs, resV, pack]
        exact hk
      · rw [if_neg (by omega)] at hp
        have c3 : (dv : Int) < x := by omega
        simp [-List.getD_eq_getElem?_getD, -Int.ofNat_toNat, -getElem?_pos, er127_0, er127_1, er127_2, er127_3, er127_4, c1, hb, hl, hq, c3]
        exact hp rfl _ _ _
  · subst e
    intro t u
    simp [-List.getD_eq_getElem?_getD, -Int.ofNat_toNat, -getElem?_pos, er127_0, er127_1, er127_2, er127_3, er127_4]
    exact hp rfl _ _ _
theorem w_CloneI (h : Has A (φ 122) (f122 φ)) {P : Nat} {H : Heap} {v : AV} {xs : List Int} (hr : RdI P H v xs) (hnn : v ≠ .nils) (hP : P ≤ H.length) (hn : xs.length < 1000000000000) (K : AV → Heap → Prop)
    (hK : ∀ o H', OwnI false H.length H' o xs → (∀ k, k < H.length → H'[k]? = H[k]?) → H.length ≤ H'.length → K o H') : PCall A (φ 122) [v] H K := by
  have h1 : ∀ rd, nstep (.eqN 1 false) [v, .nils] rd = some (.val (.bool false)) := fun rd => by rw [n_eqN, hr.nnil hnn]; rfl
  have hr' : RdI P (H ++ [Ob.cells 0 false []]) v xs := hr.keep fun b hb => List.getElem?_append_left (by omega)
  obtain ⟨o, H', x1, x2, x3, x4, x5⟩ := Own.app (bytes := 8) (own_empty H.length (H ++ [Ob.cells 0 false []]) 1 H.length 0 0) hr'.src (by rw [cI_len]; simp) (ones_cI xs) (by simp) (by simp; omega)
  have hK' := hK o H' (by simpa [OwnI] using x2) (fun k hk => by rw [x3 k (by simp; omega) (by simp [blkOf]), List.getElem?_append_left hk]) (by simp at x4; omega)
  refine pcall_has h rfl ?_
  simp only [b122, f122]
  simp [-List.getD_eq_getElem?_getD, -Int.ofNat_toNat, -getElem?_pos, er122_0, er122_1, er122_2, er122_3, h1, x1, hr.one, hr.cells, resK, resVs, resV, pack]
  exact hK'
def rowP (l : List Int) : Option (List Int × List Int) :=
  match cntP 1 l with
  | none => none
  | some (n, r) => some (r.take n, r.drop n)
theorem w_row (h : Has A (φ 125) (f125 φ)) (h2 : Has A (φ 127) (f127 φ)) (h1 : Has A (φ 124) (f124 φ)) (h3 : Has A (φ 122) (f122 φ))
    {nn : Bool} {P q : Nat} {H : Heap} {xs : List Int} (s : SrcS nn P q H xs) (hn : xs.length < 1000000000000) (K Kp : AV → Heap → Prop)
    (hK : ∀ l t o H', rowP xs = some (l, t) → SrcS true P q H' t → OwnI false H.length H' o l → Fr q H H' → t.length < xs.length → l.length < xs.length → K o H') (hp : rowP xs = none → ∀ t u H', Kp (.iface t u) H') : PCallE A (φ 125) [.ptr q 0 0] H K Kp := by
  refine pcallE_has h rfl ?_
  simp only [b125, f125]
  simp [-List.getD_eq_getElem?_getD, -Int.ofNat_toNat, -getElem?_pos, er125_0, er125_1, er125_2, er125_3, er125_4]
  refine w_count h2 h1 s 1 (by omega) (by omega) hn _ _ ?_ fun e => ?_
  · intro n t H1 e s1 f1 hnt htl
    simp only [hid_k]
    have hrow : rowP xs = some (t.take n, t.drop n) := by simp only [rowP, e]
    obtain ⟨v, hb, hr, hP, hnn⟩ := s1
    have hq := lt_of_get hb
    have hnt' : n ≤ t.length := by omega
    obtain ⟨v1, d1, d2, d3⟩ := hr.take hnt'
    obtain ⟨v2, g1, g2, g3⟩ := hr.drop hnt'
    simp [-List.getD_eq_getElem?_getD, -Int.ofNat_toNat, -getElem?_pos, er125_0, er125_1, er125_2, er125_3, er125_4, hb, d1]
    refine w_CloneI h3 d2 (d3 (hnn rfl)) (by omega) (by simp; omega) _ fun o H2 ho k2 l2 => ?_
    simp only [hid_k]
    have hb2 : H2[q]? = some (.cells 0 false [v]) := by rw [k2 q hq]; exact hb
    have hk := hK _ _ o (H2.set q (.cells 0 false [v2])) hrow ⟨v2, List.getElem?_set_self (lt_of_get hb2), g2.keep fun b hb' => by rw [List.getElem?_set_ne (by omega)]; exact k2 b (by omega), hP, fun _ => g3 (hnn rfl)⟩
      ((Own.keep ho fun b hb' hbv => List.getElem?_set_ne (by have := (Own.blk ho hbv).1; omega)).weak f1.2)
      ⟨fun k hk hkl => by rw [List.getElem?_set_ne (fun e => hk e.symm), k2 k (by have := f1.2; omega)]; exact f1.1 k hk hkl, by have := f1.2; simp; omega⟩ (by simp; omega) (by simp; omega)
    have o1 := g2.one
    have o2 := g2.cells
    have o3 := Own.one ho
    have o4 := Own.cells ho
    simp [-List.getD_eq_getElem?_getD, -Int.ofNat_toNat, -getElem?_pos, er125_0, er125_1, er125_2, er125_3, er125_4, hb2, g1, o1, o2, o3, o4, resK, resVs, resV, pack]
    exact hk
  · intro t u H'
    simp [-List.getD_eq_getElem?_getD, -Int.ofNat_toNat, -getElem?_pos, er125_0, er125_1, er125_2, er125_3, er125_4]
    exact hp (by simp only [rowP, e]) _ _ _
/-- So many, one behind the other. -/
def repP {α : Type} (p : List Int → Option (α × List Int)) : Nat → List Int → Option (List α × List Int)
  | 0, l => some ([], l)
  | n + 1, l => match p l with
    | none => none
    | some (a, l') => match repP p n l' with
      | none => none
      | some (as, l'') => some (a :: as, l'')
def rowsP (l : List Int) : Option (List (List Int) × List Int) :=
  match cntP 1 l with
  | none => none
  | some (n, r) => repP rowP n r
theorem w_rows (h : Has A (φ 126) (f126 φ)) (h4 : Has A (φ 125) (f125 φ)) (h2 : Has A (φ 127) (f127 φ)) (h1 : Has A (φ 124) (f124 φ)) (h3 : Has A (φ 122) (f122 φ))
    {nn : Bool} {P q : Nat} {H : Heap} {xs : List Int} (s : SrcS nn P q H xs) (hn : xs.length < 1000000000000) (K Kp : AV → Heap → Prop)
    (hK : ∀ l t o H', rowsP xs = some (l, t) → SrcS true P q H' t → OwnR true H.length H' o l → Fr q H H' → t.length < xs.length → l.length < xs.length → K o H') (hp : rowsP xs = none → ∀ t u H', Kp (.iface t u) H') : PCallE A (φ 126) [.ptr q 0 0] H K Kp := by
  have hqH := s.lt
  refine pcallE_has h rfl ?_
  simp only [l126_6, b126, f126]
  simp [-List.getD_eq_getElem?_getD, -Int.ofNat_toNat, -getElem?_pos, er126_0, er126_1, er126_2, er126_3, er126_4, er126_5, er126_7]
  refine w_count h2 h1 s 1 (by omega) (by omega) hn _ _ ?_ fun e => ?_
  · intro n t0 H1 e s1 f1 hnt htl
    simp only [hid_k]
    have hrow : rowsP xs = repP rowP n t0 := by simp only [rowsP, e]
    rw [hrow] at hK hp
    simp [-List.getD_eq_getElem?_getD, -Int.ofNat_toNat, -getElem?_pos, er126_0, er126_1, er126_2, er126_3, er126_4, er126_5, er126_7]
    refine pc_loopI (fun m st => ∃ (i : Nat) (acc : List (List Int)) (t : List Int) (out p5 : AV) (H' : Heap), i + m = n ∧ acc.length = i ∧ t.length ≤ t0.length ∧ repP rowP n t0 = (repP rowP (n - i) t).map (fun x => (acc ++ x.1, x.2)) ∧ SrcS true P q H' t ∧ OwnR true H.length H' out acc ∧ Fr q H H' ∧
      st = ([.ptr q 0 0, .nils, out, .int .i64 n, .int .i64 i, p5], H')) n ⟨0, [], t0, _, _, H1, by simp, rfl, Nat.le_refl _, by simp, s1, ownR_nil _ _, f1, rfl⟩ ?_
    rintro m st ⟨i, acc, t, out, p5, H', hi, hacc, htl2, hrep, s2, ho, f2, rfl⟩
    by_cases hlt : i < n
    · have hlt' : (i : Int) < n := by omega
      have hiw := wrap1 hlt (by omega)
      obtain ⟨m', hm'⟩ : ∃ m', n - i = m' + 1 := ⟨n - i - 1, by omega⟩
      rw [hm'] at hrep
      simp [-List.getD_eq_getElem?_getD, -Int.ofNat_toNat, -getElem?_pos, er126_0, er126_1, er126_2, er126_3, er126_4, er126_5, er126_7, hlt', hlt]
      refine w_row h4 h2 h1 h3 s2 (by omega) _ _ ?_ fun e2 => ?_
      · intro l t2 o H2 e2 s3 ho2 f3 l1 l2
        simp only [hid_k]
        have f4 := f2.trans f3
        have hq2 := s3.lt
        have hout2 : OwnR true H.length H2 out acc := ho.keep (fun b hb hb' => f3.1 b (by omega) hb') f3.2
        obtain ⟨o3, H3, x1, x2, x3, x4, x5, x6⟩ := hout2.app1 (Own.vw ho2) (fun b hbl => by
          obtain ⟨b1, b2⟩ := Own.blk ho2 hbl
          refine ⟨by have := f2.2; omega, b2, fun e => ?_⟩
          have := (ho.blk e).2
          omega) f4.2 (by omega)
        simp only [repP, e2] at hrep
        simp [-List.getD_eq_getElem?_getD, -Int.ofNat_toNat, -getElem?_pos, er126_0, er126_1, er126_2, er126_3, er126_4, er126_5, er126_7, Own.one ho2, Own.cells ho2, Own.part ho2, x1, hiw]
        refine next_mk (m - 1) (by omega) ⟨i + 1, acc ++ [l], t2, _, _, _, by omega, by simp [hacc], by omega, ?_, s3.keep fun k hk => x3 k (by omega), x2, ⟨fun k hk hkl => by rw [x3 k hkl]; exact f4.1 k hk hkl, by have := f4.2; omega⟩, rfl⟩
        rw [hrep, show n - (i + 1) = m' by omega]
        cases repP rowP m' t2 with
        | none => rfl
        | some y => obtain ⟨as, l''⟩ := y; simp
      · intro t' u H'
        simp [-List.getD_eq_getElem?_getD, -Int.ofNat_toNat, -getElem?_pos, er126_0, er126_1, er126_2, er126_3, er126_4, er126_5, er126_7]
        exact hp (by rw [hrep]; simp only [repP, e2]; rfl) _ _ _
    · have hlt' : ¬ (i : Int) < n := by omega
      have hie : n - i = 0 := by omega
      rw [hie] at hrep
      simp only [repP, Option.map_some, List.append_nil] at hrep
      have := hK acc t out H' hrep s2 ho f2 (by omega) (by omega)
      simp [-List.getD_eq_getElem?_getD, -Int.ofNat_toNat, -getElem?_pos, er126_0, er126_1, er126_2, er126_3, er126_4, er126_5, er126_7, hlt', hlt, ho.one, ho.cells, resK, resVs, resV, pack]
      exact this
  · intro t u H'
    simp [-List.getD_eq_getElem?_getD, -Int.ofNat_toNat, -getElem?_pos, er126_0, er126_1, er126_2, er126_3, er126_4, er126_5, er126_7]
    exact hp (by simp only [rowsP, e]) _ _ _
end Go.Ai.G
/- cert.source.cert: what it reads. -/
namespace Go.Ai.G
open Go.Ai
set_option maxRecDepth 100000
set_option linter.unusedSimpArgs false
set_option linter.unusedVariables false
variable {A : AProg} {φ : Nat → Nat}
attribute [local simp ↓] getD_z getD_s hid_k hid_o hid_q hid_v PO_nil PO_none PO_grd PD_nil PD_none PD_grd PDO_N PDO_X PDO_call PDO_calli PDO_callv PSX_N PSX_X PSX_call PSX_calli PSX_callv PSX_inv
  PSX_callp PSX_panic PDO_inv PStep_inv thenC_pan blockC_pan loopC_pan endX_ret endX_norm endX_pan PStep_N PStep_X PStep_call PStep_calli PC_skip PC_lab PC_ret PC_exit PC_reg PC_draw
  PC_seq PC_block PC_loop PC_scope PC_cond thenC_norm thenC_ret thenC_exit blockC_norm blockC_ret blockC_exit loopC_norm loopC_ret loopC_exit endR_ret endR_norm
attribute [local simp] gz PDX_free PDX_eq KI_some n_mki n_tas0 PStep_callv resK_none resK_t resK_tt KNO_val KNO_new KNO_ite KNO_map KXO_some KXO_ite KVA_t KVA_f KG_skip KG_tt KG_ff KG_tf KG_ft KB_true
  KB_false KNOD_val KNOD_new KNOD_ite n_mv n_pick n_bin n_eqB n_eqN n_eqS n_un n_conv n_fadd n_faddV n_fld1 n_fldN n_idx n_idxA n_idxV n_idxAV n_ext n_lenS n_lenS0 n_lenV n_lenT
  n_lenA n_min n_max n_build n_mkfn n_slc n_slc0 n_slcV n_slcA n_load1 n_loadN n_load1V n_loadNV n_alloc n_box n_bsl n_mksl n_nilcP n_nilcV n_nilcI n_nilcF x_store x_clear0 x_clear
  b_add b_sub b_mul b_eql b_neq b_lss b_leq b_gtr b_geq b_and16 unV ntouch gather hide unhide evalOpd applyOuts int_bne int_beq ite_bool ite_int one_bool cells_bool one_int cells_int
  one_str cells_str one_nilp cells_nilp one_ptr cells_ptr one_nils cells_nils one_sl cells_sl one_nilf cells_nilf one_fn cells_fn one_nili cells_nili one_mp cells_mp one_nilm
  cells_nilm one_iface cells_iface one_vs cells_vs one_vp cells_vp cells_agg Nat.testBit setAt_1 setAt_2 closeds_nil closeds_cons closed_bool closed_int closed_str closed_nilp
  closed_nils closed_nilm closed_nilf closed_nili closed_agg closed_tup closed_vs closed_vp closed_iface closed_fn closeds_cI closeds_cE viewA_closed viewR_closed AV.scal AV.scal0
  fillA repA part_bool part_int part_str part_nilp part_ptr part_nils part_sl part_nilm part_mp part_nilf part_fn part_nili part_iface part_agg part_vs part_vp viewA_sl1 vaSl_cells
  wrap_0 wrap_1 wrap_2 wrap_m1 set_last get_last
theorem er128_0 (φ : Nat → Nat) : r128_0 φ = [
  ⟨0, .N .mv, [.c (.nili)], none, 0⟩] := Eq.trans rfl rfl
theorem er128_1 (φ : Nat → Nat) : r128_1 φ = [
  ⟨0, .N .mv, [.n 0], none, 0⟩,
  ⟨1, .callp (φ 124), [.l 0], none, 0⟩] := Eq.trans rfl rfl
theorem er128_2 (φ : Nat → Nat) : r128_2 φ = [
  ⟨0, .N (.bin .eql), [.n 11, .c (.int .i64 1)], none, 0⟩,
  ⟨1, .N .mv, [.l 0], none, 0⟩] := Eq.trans rfl rfl
theorem er128_3 (φ : Nat → Nat) : r128_3 φ = [
  ⟨0, .N .mv, [.n 0], none, 0⟩,
  ⟨1, .callp (φ 125), [.l 0], none, 0⟩,
  ⟨2, .N .mv, [.l 0], none, 0⟩] := Eq.trans rfl rfl
theorem er128_4 (φ : Nat → Nat) : r128_4 φ = [
  ⟨0, .N .mv, [.n 2], none, 0⟩,
  ⟨1, .N .mv, [.n 0], none, 0⟩,
  ⟨2, .callp (φ 126), [.l 0], none, 0⟩,
  ⟨3, .N (.build [.nils, .nils] [(0, 1), (1, 1)]), [.l 2, .l 0], none, 0⟩,
  ⟨4, .N (.mki (φ 93)), [.l 0], none, 0⟩,
  ⟨5, .N .mv, [.l 0], none, 0⟩] := Eq.trans rfl rfl
theorem er128_5 (φ : Nat → Nat) : r128_5 φ = [
  ⟨0, .N (.bin .eql), [.n 11, .c (.int .i64 2)], none, 0⟩,
  ⟨1, .N .mv, [.l 0], none, 0⟩] := Eq.trans rfl rfl
theorem er128_6 (φ : Nat → Nat) : r128_6 φ = [
  ⟨0, .N (.alloc [.nils, .nils, .nils]), [], none, 0⟩] := Eq.trans rfl rfl
theorem er128_7 (φ : Nat → Nat) : r128_7 φ = [
  ⟨0, .N .mv, [.n 0], none, 0⟩,
  ⟨1, .callp (φ 126), [.l 0], none, 0⟩,
  ⟨2, .N (.fadd 0), [.n 3], none, 0⟩,
  ⟨3, .N (.fadd 0), [.l 0], none, 0⟩,
  ⟨4, .X (.store 1), [.l 0, .l 2], none, 0⟩] := Eq.trans rfl rfl
theorem er128_8 (φ : Nat → Nat) : r128_8 φ = [
  ⟨0, .N .mv, [.n 0], none, 0⟩,
  ⟨1, .callp (φ 125), [.l 0], none, 0⟩,
  ⟨2, .N (.fadd 0), [.n 3], none, 0⟩,
  ⟨3, .N (.fadd 1), [.l 0], none, 0⟩,
  ⟨4, .X (.store 1), [.l 0, .l 2], none, 0⟩] := Eq.trans rfl rfl
theorem er128_9 (φ : Nat → Nat) : r128_9 φ = [
  ⟨0, .N .mv, [.n 0], none, 0⟩,
  ⟨1, .callp (φ 127), [.l 0, .c (.int .i64 1)], none, 0⟩,
  ⟨2, .N .mv, [.c (.int .i64 0)], none, 0⟩] := Eq.trans rfl rfl
theorem er128_10 (φ : Nat → Nat) : r128_10 φ = [
  ⟨0, .N (.bin .lss), [.n 15, .n 14], none, 0⟩] := Eq.trans rfl rfl
theorem er128_11 (φ : Nat → Nat) : r128_11 φ = [
  ⟨0, .N .mv, [.c (.nils)], none, 0⟩] := Eq.trans rfl rfl
theorem er128_12 (φ : Nat → Nat) : r128_12 φ = [
  ⟨0, .N .mv, [.n 0], none, 0⟩,
  ⟨1, .callp (φ 127), [.l 0, .c (.int .i64 3)], none, 0⟩,
  ⟨2, .N .mv, [.c (.int .i64 0)], none, 0⟩] := Eq.trans rfl rfl
theorem er128_13 (φ : Nat → Nat) : r128_13 φ = [
  ⟨0, .N (.bin .lss), [.n 18, .n 17], none, 0⟩] := Eq.trans rfl rfl
theorem er128_14 (φ : Nat → Nat) : r128_14 φ = [
  ⟨0, .N .mv, [.n 0], none, 0⟩,
  ⟨1, .callp (φ 124), [.l 0], none, 0⟩,
  ⟨2, .N (.build [.int .i64 0, .int .i64 0, .int .i64 0] [(0, 1)]), [.l 0], none, 0⟩,
  ⟨3, .N (.alloc [.int .i64 0, .int .i64 0, .int .i64 0]), [], none, 0⟩,
  ⟨4, .X (.store 3), [.l 0, .l 1], none, 0⟩] := Eq.trans rfl rfl
theorem er128_15 (φ : Nat → Nat) : r128_15 φ = [
  ⟨0, .N .mv, [.n 0], none, 0⟩,
  ⟨1, .callp (φ 124), [.l 0], none, 0⟩,
  ⟨2, .N (.fadd 1), [.n 5], none, 0⟩,
  ⟨3, .X (.store 1), [.l 0, .l 1], none, 0⟩] := Eq.trans rfl rfl
theorem er128_16 (φ : Nat → Nat) : r128_16 φ = [
  ⟨0, .N .mv, [.n 0], none, 0⟩,
  ⟨1, .callp (φ 124), [.l 0], none, 0⟩,
  ⟨2, .N (.fadd 2), [.n 5], none, 0⟩,
  ⟨3, .X (.store 1), [.l 0, .l 1], none, 0⟩] := Eq.trans rfl rfl
theorem er128_17 (φ : Nat → Nat) : r128_17 φ = [
  ⟨0, .N .mv, [.n 4], none, 0⟩,
  ⟨1, .N (.loadN 3), [.n 5], none, 0⟩,
  ⟨2, .N (.bsl [.int .i64 0, .int .i64 0, .int .i64 0] 1 3 [(0, 3)]), [.l 0], none, 0⟩,
  ⟨3, .X (.app 3 24), [.l 2, .l 0], none, 0⟩,
  ⟨4, .N .mv, [.l 0], none, 0⟩] := Eq.trans rfl rfl
theorem er128_18 (φ : Nat → Nat) : r128_18 φ = [
  ⟨0, .N (.bin .add), [.n 18, .c (.int .i64 1)], none, 0⟩,
  ⟨1, .N .mv, [.l 0], none, 0⟩] := Eq.trans rfl rfl
theorem er128_20 (φ : Nat → Nat) : r128_20 φ = [
  ⟨0, .N (.fadd 2), [.n 3], none, 0⟩,
  ⟨1, .N .load1, [.l 0], none, 0⟩,
  ⟨2, .N .mv, [.n 4], none, 0⟩,
  ⟨3, .N (.bsl [.nils] 1 1 [(0, 1)]), [.l 0], none, 0⟩,
  ⟨4, .X (.app 1 24), [.l 2, .l 0], none, 0⟩,
  ⟨5, .N (.fadd 2), [.n 3], none, 0⟩,
  ⟨6, .X (.store 1), [.l 0, .l 1], none, 0⟩] := Eq.trans rfl rfl
theorem er128_21 (φ : Nat → Nat) : r128_21 φ = [
  ⟨0, .N (.bin .add), [.n 15, .c (.int .i64 1)], none, 0⟩,
  ⟨1, .N .mv, [.l 0], none, 0⟩] := Eq.trans rfl rfl
theorem er128_23 (φ : Nat → Nat) : r128_23 φ = [
  ⟨0, .N (.loadN 3), [.n 3], none, 0⟩,
  ⟨1, .N (.mki (φ 91)), [.l 0], none, 0⟩,
  ⟨2, .N .mv, [.l 0], none, 0⟩] := Eq.trans rfl rfl
theorem er128_24 (φ : Nat → Nat) : r128_24 φ = [
  ⟨0, .N (.bin .eql), [.n 11, .c (.int .i64 3)], none, 0⟩,
  ⟨1, .N .mv, [.l 0], none, 0⟩] := Eq.trans rfl rfl
theorem er128_25 (φ : Nat → Nat) : r128_25 φ = [
  ⟨0, .N .mv, [.n 0], none, 0⟩,
  ⟨1, .callp (φ 125), [.l 0], none, 0⟩,
  ⟨2, .N (.build [.nils] [(0, 1)]), [.l 0], none, 0⟩,
  ⟨3, .N (.mki (φ 97)), [.l 0], none, 0⟩,
  ⟨4, .N .mv, [.l 0], none, 0⟩] := Eq.trans rfl rfl
theorem er128_26 (φ : Nat → Nat) : r128_26 φ = [
  ⟨0, .N (.bin .eql), [.n 11, .c (.int .i64 4)], none, 0⟩,
  ⟨1, .N .mv, [.l 0], none, 0⟩] := Eq.trans rfl rfl
theorem er128_27 (φ : Nat → Nat) : r128_27 φ = [
  ⟨0, .N .mv, [.n 0], none, 0⟩,
  ⟨1, .callp (φ 124), [.l 0], none, 0⟩,
  ⟨2, .N (.build [.int .i64 0, .nils, .nils] [(0, 1)]), [.l 0], none, 0⟩,
  ⟨3, .N (.alloc [.int .i64 0, .nils, .nils]), [], none, 0⟩,
  ⟨4, .X (.store 3), [.l 0, .l 1], none, 0⟩] := Eq.trans rfl rfl
theorem er128_28 (φ : Nat → Nat) : r128_28 φ = [
  ⟨0, .N .mv, [.n 0], none, 0⟩,
  ⟨1, .callp (φ 125), [.l 0], none, 0⟩,
  ⟨2, .N (.fadd 1), [.n 6], none, 0⟩,
  ⟨3, .X (.store 1), [.l 0, .l 1], none, 0⟩] := Eq.trans rfl rfl
theorem er128_29 (φ : Nat → Nat) : r128_29 φ = [
  ⟨0, .N .mv, [.n 0], none, 0⟩,
  ⟨1, .callp (φ 126), [.l 0], none, 0⟩,
  ⟨2, .N (.fadd 2), [.n 6], none, 0⟩,
  ⟨3, .X (.store 1), [.l 0, .l 1], none, 0⟩] := Eq.trans rfl rfl
theorem er128_30 (φ : Nat → Nat) : r128_30 φ = [
  ⟨0, .N (.loadN 3), [.n 6], none, 0⟩,
  ⟨1, .N (.build [.int .i64 0, .nils, .nils] [(0, 3)]), [.l 0], none, 0⟩,
  ⟨2, .N (.mki (φ 87)), [.l 0], none, 0⟩,
  ⟨3, .N .mv, [.l 0], none, 0⟩] := Eq.trans rfl rfl
theorem er128_31 (φ : Nat → Nat) : r128_31 φ = [
  ⟨0, .N (.bin .eql), [.n 11, .c (.int .i64 5)], none, 0⟩,
  ⟨1, .N .mv, [.l 0], none, 0⟩] := Eq.trans rfl rfl
theorem er128_32 (φ : Nat → Nat) : r128_32 φ = [
  ⟨0, .N .mv, [.n 0], none, 0⟩,
  ⟨1, .callp (φ 124), [.l 0], none, 0⟩,
  ⟨2, .N (.build [.int .i64 0, .int .i64 0, .nils] [(0, 1)]), [.l 0], none, 0⟩,
  ⟨3, .N (.alloc [.int .i64 0, .int .i64 0, .nils]), [], none, 0⟩,
  ⟨4, .X (.store 3), [.l 0, .l 1], none, 0⟩] := Eq.trans rfl rfl
theorem er128_33 (φ : Nat → Nat) : r128_33 φ = [
  ⟨0, .N .mv, [.n 0], none, 0⟩,
  ⟨1, .callp (φ 124), [.l 0], none, 0⟩,
  ⟨2, .N (.fadd 1), [.n 7], none, 0⟩,
  ⟨3, .X (.store 1), [.l 0, .l 1], none, 0⟩] := Eq.trans rfl rfl
theorem er128_34 (φ : Nat → Nat) : r128_34 φ = [
  ⟨0, .N .mv, [.n 0], none, 0⟩,
  ⟨1, .callp (φ 125), [.l 0], none, 0⟩,
  ⟨2, .N (.fadd 2), [.n 7], none, 0⟩,
  ⟨3, .X (.store 1), [.l 0, .l 1], none, 0⟩] := Eq.trans rfl rfl
theorem er128_35 (φ : Nat → Nat) : r128_35 φ = [
  ⟨0, .N (.loadN 3), [.n 7], none, 0⟩,
  ⟨1, .N (.mki (φ 89)), [.l 0], none, 0⟩,
  ⟨2, .N .mv, [.l 0], none, 0⟩] := Eq.trans rfl rfl
theorem er128_36 (φ : Nat → Nat) : r128_36 φ = [
  ⟨0, .N (.bin .eql), [.n 11, .c (.int .i64 6)], none, 0⟩,
  ⟨1, .N .mv, [.l 0], none, 0⟩] := Eq.trans rfl rfl
theorem er128_37 (φ : Nat → Nat) : r128_37 φ = [
  ⟨0, .N .mv, [.n 0], none, 0⟩,
  ⟨1, .callp (φ 124), [.l 0], none, 0⟩,
  ⟨2, .N (.build [.int .i64 0, .nils] [(0, 1)]), [.l 0], none, 0⟩,
  ⟨3, .N (.alloc [.int .i64 0, .nils]), [], none, 0⟩,
  ⟨4, .X (.store 2), [.l 0, .l 1], none, 0⟩] := Eq.trans rfl rfl
theorem er128_38 (φ : Nat → Nat) : r128_38 φ = [
  ⟨0, .N .mv, [.n 0], none, 0⟩,
  ⟨1, .callp (φ 127), [.l 0, .c (.int .i64 6)], none, 0⟩,
  ⟨2, .N .mv, [.c (.int .i64 0)], none, 0⟩] := Eq.trans rfl rfl
theorem er128_39 (φ : Nat → Nat) : r128_39 φ = [
  ⟨0, .N (.bin .lss), [.n 25, .n 24], none, 0⟩] := Eq.trans rfl rfl
theorem er128_40 (φ : Nat → Nat) : r128_40 φ = [
  ⟨0, .N (.alloc [.int .i64 0, .int .i64 0, .int .i64 0, .int .i64 0, .int .i64 0, .int .i64 0]), [], none, 0⟩] := Eq.trans rfl rfl
theorem er128_41 (φ : Nat → Nat) : r128_41 φ = [
  ⟨0, .N .mv, [.c (.int .i64 0)], none, 0⟩] := Eq.trans rfl rfl
theorem er128_42 (φ : Nat → Nat) : r128_42 φ = [
  ⟨0, .N (.bin .lss), [.n 27, .c (.int .i64 6)], none, 0⟩] := Eq.trans rfl rfl
theorem er128_43 (φ : Nat → Nat) : r128_43 φ = [
  ⟨0, .N .mv, [.n 27], none, 0⟩,
  ⟨1, .N .mv, [.l 0], none, 0⟩] := Eq.trans rfl rfl
theorem er128_44 (φ : Nat → Nat) : r128_44 φ = [
  ⟨0, .N .mv, [.n 10], none, 0⟩,
  ⟨1, .N .mv, [.n 0], none, 0⟩,
  ⟨2, .callp (φ 124), [.l 0], none, 0⟩,
  ⟨3, .N (.idxA 6 1), [.n 9, .l 2], none, 0⟩,
  ⟨4, .X (.store 1), [.l 0, .l 1], none, 0⟩] := Eq.trans rfl rfl
theorem er128_45 (φ : Nat → Nat) : r128_45 φ = [
  ⟨0, .N (.bin .add), [.n 27, .c (.int .i64 1)], none, 0⟩,
  ⟨1, .N .mv, [.l 0], none, 0⟩] := Eq.trans rfl rfl
theorem er128_47 (φ : Nat → Nat) : r128_47 φ = [
  ⟨0, .N (.fadd 1), [.n 8], none, 0⟩,
  ⟨1, .N .load1, [.l 0], none, 0⟩,
  ⟨2, .N (.idxA 6 1), [.n 9, .c (.int .i64 0)], none, 0⟩,
  ⟨3, .N .load1, [.l 0], none, 0⟩,
  ⟨4, .N (.idxA 6 1), [.n 9, .c (.int .i64 1)], none, 0⟩,
  ⟨5, .N .load1, [.l 0], none, 0⟩,
  ⟨6, .N (.idxA 6 1), [.n 9, .c (.int .i64 2)], none, 0⟩,
  ⟨7, .N .load1, [.l 0], none, 0⟩,
  ⟨8, .N (.idxA 6 1), [.n 9, .c (.int .i64 3)], none, 0⟩,
  ⟨9, .N .load1, [.l 0], none, 0⟩,
  ⟨10, .N (.idxA 6 1), [.n 9, .c (.int .i64 4)], none, 0⟩,
  ⟨11, .N .load1, [.l 0], none, 0⟩,
  ⟨12, .N (.idxA 6 1), [.n 9, .c (.int .i64 5)], none, 0⟩,
  ⟨13, .N .load1, [.l 0], none, 0⟩,
  ⟨14, .N (.build [.int .i64 0, .int .i64 0, .int .i64 0, .int .i64 0, .int .i64 0, .int .i64 0] [(0, 1), (1, 1), (2, 1), (3, 1), (4, 1), (5, 1)]), [.l 10, .l 8, .l 6, .l 4, .l 2, .l 0], none, 0⟩,
  ⟨15, .N (.bsl [.int .i64 0, .int .i64 0, .int .i64 0, .int .i64 0, .int .i64 0, .int .i64 0] 1 6 [(0, 6)]), [.l 0], none, 0⟩,
  ⟨16, .X (.app 6 48), [.l 14, .l 0], none, 0⟩,
  ⟨17, .N (.fadd 1), [.n 8], none, 0⟩,
  ⟨18, .X (.store 1), [.l 0, .l 1], none, 0⟩] := Eq.trans rfl rfl
theorem er128_48 (φ : Nat → Nat) : r128_48 φ = [
  ⟨0, .N (.bin .add), [.n 25, .c (.int .i64 1)], none, 0⟩,
  ⟨1, .N .mv, [.l 0], none, 0⟩] := Eq.trans rfl rfl
theorem er128_50 (φ : Nat → Nat) : r128_50 φ = [
  ⟨0, .N (.loadN 2), [.n 8], none, 0⟩,
  ⟨1, .N (.build [.int .i64 0, .nils] [(0, 2)]), [.l 0], none, 0⟩,
  ⟨2, .N (.mki (φ 95)), [.l 0], none, 0⟩,
  ⟨3, .N .mv, [.l 0], none, 0⟩] := Eq.trans rfl rfl
theorem er128_51 (φ : Nat → Nat) : r128_51 φ = [
  ⟨0, .N .mv, [.c (.nili)], none, 0⟩] := Eq.trans rfl rfl
def takeP (k : Nat) (l : List Int) : Option (List Int × List Int) := if k ≤ l.length then some (l.take k, l.drop k) else none
def treeP (l : List Int) : Option (List (List Int) × List Int) :=
  match cntP 3 l with
  | none => none
  | some (n, r) => repP (takeP 3) n r
def treesP (l : List Int) : Option (List (List (List Int)) × List Int) :=
  match cntP 1 l with
  | none => none
  | some (n, r) => repP treeP n r
def cutsP (l : List Int) : Option (List (List Int) × List Int) :=
  match cntP 6 l with
  | none => none
  | some (n, r) => repP (takeP 6) n r
/-- What a certificate holds. -/
inductive CV where
  | pages (o : List Int) (c : List (List Int))
  | narrow (s : List (List Int)) (u : List Int) (t : List (List (List Int)))
  | ring (o : List Int)
  | bar (k : Int) (t : List Int) (p : List (List Int))
  | gap (a b : Int) (o : List Int)
  | refusal (e : Int) (c : List (List Int))
def bindP {α β : Type} (x : Option (α × List Int)) (f : α → List Int → Option (β × List Int)) : Option (β × List Int) :=
  match x with
  | none => none
  | some (a, l) => f a l
def oneP : List Int → Option (Int × List Int)
  | [] => none
  | x :: t => some (x, t)
def certP : List Int → Option (Option CV × List Int)
  | [] => none
  | k :: r =>
    if k = 1 then bindP (rowP r) fun o l => bindP (rowsP l) fun c l => some (some (.pages o c), l)
    else if k = 2 then bindP (rowsP r) fun s l => bindP (rowP l) fun u l => bindP (treesP l) fun t l => some (some (.narrow s u t), l)
    else if k = 3 then bindP (rowP r) fun o l => some (some (.ring o), l)
    else if k = 4 then bindP (oneP r) fun k l => bindP (rowP l) fun t l => bindP (rowsP l) fun p l => some (some (.bar k t p), l)
    else if k = 5 then bindP (oneP r) fun a l => bindP (oneP l) fun b l => bindP (rowP l) fun o l => some (some (.gap a b o), l)
    else if k = 6 then bindP (oneP r) fun e l => bindP (cutsP l) fun c l => some (some (.refusal e c), l)
    else some (none, r)
def eT (k : Nat) (x : List (List Int)) : Nat × List AV := (x.length, cI x.flatten)
abbrev rR (xs : List (List Int)) : AV := rv true xs.length 1 (xs.map vI)
abbrev rC (k : Nat) (xs : List (List Int)) : AV := rv true xs.length k (cI xs.flatten)
abbrev rT (ts : List (List (List Int))) : AV := rv true ts.length 1 (ts.map (rC 3))
/-- As a value. -/
def cvV (φ : Nat → Nat) : CV → AV
  | .pages o c => .iface (φ 93) (.agg [vI o, rR c])
  | .narrow s u t => .iface (φ 91) (.agg [rR s, vI u, rT t])
  | .ring o => .iface (φ 97) (.agg [vI o])
  | .bar k t p => .iface (φ 87) (.agg [.int .i64 k, vI t, rR p])
  | .gap a b o => .iface (φ 89) (.agg [.int .i64 a, .int .i64 b, vI o])
  | .refusal e c => .iface (φ 95) (.agg [.int .i64 e, rC 6 c])
def cvO (φ : Nat → Nat) : Option CV → AV
  | none => .nili
  | some c => cvV φ c
structure CS (A : AProg) (φ : Nat → Nat) : Prop where
  one : Has A (φ 124) (f124 φ)
  count : Has A (φ 127) (f127 φ)
  row : Has A (φ 125) (f125 φ)
  rows : Has A (φ 126) (f126 φ)
  clone : Has A (φ 122) (f122 φ)
set_option maxHeartbeats 4000000 in
theorem w_cert (h : Has A (φ 128) (f128 φ)) (g : CS A φ) {nn : Bool} {P q : Nat} {H : Heap} {xs : List Int} (s : SrcS nn P q H xs) (hn : xs.length < 1000000000000) (K Kp : AV → Heap → Prop)
    (hK : ∀ oc t v H', certP xs = some (oc, t) → SrcS true P q H' t → viewR H' v = some (cvO φ oc) → Fr q H H' → K v H') (hp : certP xs = none → ∀ t u H', Kp (.iface t u) H') : PCallE A (φ 128) [.ptr q 0 0] H K Kp := by
  have hqH := s.lt
  refine pcallE_has h rfl ?_
  simp only [l128_19, l128_22, l128_46, l128_49, b128, f128]
  simp [-List.getD_eq_getElem?_getD, -Int.ofNat_toNat, -getElem?_pos, er128_0, er128_1, er128_2, er128_3, er128_4, er128_5, er128_6, er128_7, er128_8, er128_9, er128_10, er128_11, er128_12, er128_13, er128_14, er128_15, er128_16, er128_17, er128_18, er128_20, er128_21, er128_23, er128_24, er128_25, er128_26, er128_27, er128_28, er128_29, er128_30, er128_31, er128_32, er128_33, er128_34, er128_35, er128_36, er128_37, er128_38, er128_39, er128_40, er128_41, er128_42, er128_43, er128_44, er128_45, er128_47, er128_48, er128_50, er128_51]
  refine w_one g.one s _ _ ?_ fun e => ?_
  rotate_left
  · subst e
    intro t u
    simp [-List.getD_eq_getElem?_getD, -Int.ofNat_toNat, -getElem?_pos, er128_0, er128_1, er128_2, er128_3, er128_4, er128_5, er128_6, er128_7, er128_8, er128_9, er128_10, er128_11, er128_12, er128_13, er128_14, er128_15, er128_16, er128_17, er128_18, er128_20, er128_21, er128_23, er128_24, er128_25, er128_26, er128_27, er128_28, er128_29, er128_30, er128_31, er128_32, er128_33, er128_34, er128_35, er128_36, er128_37, er128_38, er128_39, er128_40, er128_41, er128_42, er128_43, er128_44, er128_45, er128_47, er128_48, er128_50, er128_51]
    exact hp rfl _ _ _
  intro k r H1 e s1 f1
  subst e
  have hr : r.length < 1000000000000 := by simp at hn; omega
  simp only [hid_k]
  by_cases k1 : k = 1
  · subst k1
    have hc : certP (1 :: r) = bindP (rowP r) fun o l => bindP (rowsP l) fun c l => some (some (.pages o c), l) := rfl
    rw [hc] at hK hp
    simp [-List.getD_eq_getElem?_getD, -Int.ofNat_toNat, -getElem?_pos, er128_0, er128_1, er128_2, er128_3, er128_4, er128_5, er128_6, er128_7, er128_8, er128_9, er128_10, er128_11, er128_12, er128_13, er128_14, er128_15, er128_16, er128_17, er128_18, er128_20, er128_21, er128_23, er128_24, er128_25, er128_26, er128_27, er128_28, er128_29, er128_30, er128_31, er128_32, er128_33, er128_34, er128_35, er128_36, er128_37, er128_38, er128_39, er128_40, er128_41, er128_42, er128_43, er128_44, er128_45, er128_47, er128_48, er128_50, er128_51]
    refine w_row g.row g.count g.one g.clone s1 hr _ _ ?_ fun e => ?_
    rotate_left
    · intro t u H'
      simp [-List.getD_eq_getElem?_getD, -Int.ofNat_toNat, -getElem?_pos, er128_0, er128_1, er128_2, er128_3, er128_4, er128_5, er128_6, er128_7, er128_8, er128_9, er128_10, er128_11, er128_12, er128_13, er128_14, er128_15, er128_16, er128_17, er128_18, er128_20, er128_21, er128_23, er128_24, er128_25, er128_26, er128_27, er128_28, er128_29, er128_30, er128_31, er128_32, er128_33, er128_34, er128_35, er128_36, er128_37, er128_38, er128_39, er128_40, er128_41, er128_42, er128_43, er128_44, er128_45, er128_47, er128_48, er128_50, er128_51]
      exact hp (by rw [e]; rfl) _ _ _
    intro o l ov H2 e2 s2 o2 f2 l2 _
    simp only [hid_k]
    simp [-List.getD_eq_getElem?_getD, -Int.ofNat_toNat, -getElem?_pos, er128_0, er128_1, er128_2, er128_3, er128_4, er128_5, er128_6, er128_7, er128_8, er128_9, er128_10, er128_11, er128_12, er128_13, er128_14, er128_15, er128_16, er128_17, er128_18, er128_20, er128_21, er128_23, er128_24, er128_25, er128_26, er128_27, er128_28, er128_29, er128_30, er128_31, er128_32, er128_33, er128_34, er128_35, er128_36, er128_37, er128_38, er128_39, er128_40, er128_41, er128_42, er128_43, er128_44, er128_45, er128_47, er128_48, er128_50, er128_51]
    refine w_rows g.rows g.row g.count g.one g.clone s2 (by omega) _ _ ?_ fun e => ?_
    rotate_left
    · intro t u H'
      simp [-List.getD_eq_getElem?_getD, -Int.ofNat_toNat, -getElem?_pos, er128_0, er128_1, er128_2, er128_3, er128_4, er128_5, er128_6, er128_7, er128_8, er128_9, er128_10, er128_11, er128_12, er128_13, er128_14, er128_15, er128_16, er128_17, er128_18, er128_20, er128_21, er128_23, er128_24, er128_25, er128_26, er128_27, er128_28, er128_29, er128_30, er128_31, er128_32, er128_33, er128_34, er128_35, er128_36, er128_37, er128_38, er128_39, er128_40, er128_41, er128_42, er128_43, er128_44, er128_45, er128_47, er128_48, er128_50, er128_51]
      exact hp (by rw [e2]; simp only [bindP, e]) _ _ _
    intro c l3 cv H3 e3 s3 o3 f3 _ _
    simp only [hid_k]
    have hq1 := s1.lt
    have o2' : OwnI false H1.length H3 ov o := Own.keep o2 fun b hb hbv => f3.1 b (by have := (Own.blk o2 hbv).1; omega) hb
    obtain ⟨bs, hs⟩ := o3.seesF
    have hv : viewR H3 (.iface (φ 93) (.agg [ov, cv])) = some (cvO φ (some (.pages o c))) := by
      refine (SeesF.iface (SeesL.agg (SeesL.cons (((Own.vw o2').seesF (closeds_cI o)).mono (e := 4) (by omega)) (SeesL.cons hs ((seesL_nil _).mono (by omega)) (by omega)) (by omega))) _).vr (by omega) |>.trans ?_
      simp [cvO, cvV, rv]
    have hk := hK _ _ _ H3 (by rw [e2]; simp only [bindP, e3]) s3 hv (f1.trans (f2.trans f3))
    simp [-List.getD_eq_getElem?_getD, -Int.ofNat_toNat, -getElem?_pos, er128_0, er128_1, er128_2, er128_3, er128_4, er128_5, er128_6, er128_7, er128_8, er128_9, er128_10, er128_11, er128_12, er128_13, er128_14, er128_15, er128_16, er128_17, er128_18, er128_20, er128_21, er128_23, er128_24, er128_25, er128_26, er128_27, er128_28, er128_29, er128_30, er128_31, er128_32, er128_33, er128_34, er128_35, er128_36, er128_37, er128_38, er128_39, er128_40, er128_41, er128_42, er128_43, er128_44, er128_45, er128_47, er128_48, er128_50, er128_51, Own.one o2', Own.cells o2', Own.part o2', o3.one, o3.cells, o3.part, resK, resVs, resV, pack]
    exact hk
  by_cases k2 : k = 2
  · subst k2
    have hc : certP (2 :: r) = bindP (rowsP r) fun s l => bindP (rowP l) fun u l => bindP (treesP l) fun t l => some (some (.narrow s u t), l) := rfl
    rw [hc] at hK hp
    have hq1 := s1.lt
    simp [-List.getD_eq_getElem?_getD, -Int.ofNat_toNat, -getElem?_pos, er128_0, er128_1, er128_2, er128_3, er128_4, er128_5, er128_6, er128_7, er128_8, er128_9, er128_10, er128_11, er128_12, er128_13, er128_14, er128_15, er128_16, er128_17, er128_18, er128_20, er128_21, er128_23, er128_24, er128_25, er128_26, er128_27, er128_28, er128_29, er128_30, er128_31, er128_32, er128_33, er128_34, er128_35, er128_36, er128_37, er128_38, er128_39, er128_40, er128_41, er128_42, er128_43, er128_44, er128_45, er128_47, er128_48, er128_50, er128_51]
    have s1' : SrcS true P q (H1 ++ [Ob.cells 0 false [.nils, .nils, .nils]]) r := s1.keep fun k hk => List.getElem?_append_left (by omega)
    refine w_rows g.rows g.row g.count g.one g.clone s1' hr _ _ ?_ fun e => ?_
    rotate_left
    · intro t u H'
      simp [-List.getD_eq_getElem?_getD, -Int.ofNat_toNat, -getElem?_pos, er128_0, er128_1, er128_2, er128_3, er128_4, er128_5, er128_6, er128_7, er128_8, er128_9, er128_10, er128_11, er128_12, er128_13, er128_14, er128_15, er128_16, er128_17, er128_18, er128_20, er128_21, er128_23, er128_24, er128_25, er128_26, er128_27, er128_28, er128_29, er128_30, er128_31, er128_32, er128_33, er128_34, er128_35, er128_36, er128_37, er128_38, er128_39, er128_40, er128_41, er128_42, er128_43, er128_44, er128_45, er128_47, er128_48, er128_50, er128_51]
      exact hp (by simp only [bindP, e]) _ _ _
    intro sets l1 sv H2 e2 s2 o2 f2 l2 _
    simp only [hid_k]
    have hb2 : H2[H1.length]? = some (.cells 0 false [.nils, .nils, .nils]) := by rw [f2.1 _ (by omega) (by simp), get_at0]; rfl
    have hl2 := f2.2
    simp only [List.length_append, List.length_singleton] at hl2 o2
    simp [-List.getD_eq_getElem?_getD, -Int.ofNat_toNat, -getElem?_pos, er128_0, er128_1, er128_2, er128_3, er128_4, er128_5, er128_6, er128_7, er128_8, er128_9, er128_10, er128_11, er128_12, er128_13, er128_14, er128_15, er128_16, er128_17, er128_18, er128_20, er128_21, er128_23, er128_24, er128_25, er128_26, er128_27, er128_28, er128_29, er128_30, er128_31, er128_32, er128_33, er128_34, er128_35, er128_36, er128_37, er128_38, er128_39, er128_40, er128_41, er128_42, er128_43, er128_44, er128_45, er128_47, er128_48, er128_50, er128_51, hb2, o2.one, o2.cells, setAt]
    have s2' : SrcS true P q (H2.set H1.length (.cells 0 false [sv, .nils, .nils])) l1 := s2.keep fun k hk => List.getElem?_set_ne (by omega)
    have o2' : OwnR true (H1.length + 1) (H2.set H1.length (.cells 0 false [sv, .nils, .nils])) sv sets := o2.keep (fun b hb _ => List.getElem?_set_ne (by omega)) (by simp)
    have hb2' : (H2.set H1.length (.cells 0 false [sv, .nils, .nils]))[H1.length]? = some (.cells 0 false [sv, .nils, .nils]) := List.getElem?_set_self (by omega)
    have f2' : Fr q H (H2.set H1.length (.cells 0 false [sv, .nils, .nils])) := ((f1.app _).trans f2).setN f1.2 _
    have hl3 : H1.length < (H2.set H1.length (.cells 0 false [sv, .nils, .nils])).length := by simp; omega
    generalize H2.set H1.length (.cells 0 false [sv, .nils, .nils]) = H3 at *
    refine w_row g.row g.count g.one g.clone s2' (by omega) _ _ ?_ fun e => ?_
    rotate_left
    · intro t u H'
      simp [-List.getD_eq_getElem?_getD, -Int.ofNat_toNat, -getElem?_pos, er128_0, er128_1, er128_2, er128_3, er128_4, er128_5, er128_6, er128_7, er128_8, er128_9, er128_10, er128_11, er128_12, er128_13, er128_14, er128_15, er128_16, er128_17, er128_18, er128_20, er128_21, er128_23, er128_24, er128_25, er128_26, er128_27, er128_28, er128_29, er128_30, er128_31, er128_32, er128_33, er128_34, er128_35, er128_36, er128_37, er128_38, er128_39, er128_40, er128_41, er128_42, er128_43, er128_44, er128_45, er128_47, er128_48, er128_50, er128_51]
      exact hp (by simp only [bindP, e2, e]) _ _ _
    intro up l3 uv H4 e4 s4 o4 f4 _ _
    simp only [hid_k]
    have hb4 : H4[H1.length]? = some (.cells 0 false [sv, .nils, .nils]) := by rw [f4.1 _ (by omega) hl3]; exact hb2'
    have hl4 := f4.2
    simp [-List.getD_eq_getElem?_getD, -Int.ofNat_toNat, -getElem?_pos, er128_0, er128_1, er128_2, er128_3, er128_4, er128_5, er128_6, er128_7, er128_8, er128_9, er128_10, er128_11, er128_12, er128_13, er128_14, er128_15, er128_16, er128_17, er128_18, er128_20, er128_21, er128_23, er128_24, er128_25, er128_26, er128_27, er128_28, er128_29, er128_30, er128_31, er128_32, er128_33, er128_34, er128_35, er128_36, er128_37, er128_38, er128_39, er128_40, er128_41, er128_42, er128_43, er128_44, er128_45, er128_47, er128_48, er128_50, er128_51, hb4, Own.one o4, Own.cells o4, setAt]
    have s4' : SrcS true P q (H4.set H1.length (.cells 0 false [sv, uv, .nils])) l3 := s4.keep fun k hk => List.getElem?_set_ne (by omega)
    have o4' : OwnI false (H1.length + 1) (H4.set H1.length (.cells 0 false [sv, uv, .nils])) uv up := (Own.keep o4 fun b hb hbv => List.getElem?_set_ne (by have := (Own.blk o4 hbv).1; omega)).weak (by omega)
    have o2'' : OwnR true (H1.length + 1) (H4.set H1.length (.cells 0 false [sv, uv, .nils])) sv sets := o2'.keep (fun b hb hb' => by rw [List.getElem?_set_ne (by omega)]; exact f4.1 b (by omega) hb') (by simp; omega)
    have hb4' : (H4.set H1.length (.cells 0 false [sv, uv, .nils]))[H1.length]? = some (.cells 0 false [sv, uv, .nils]) := List.getElem?_set_self (by omega)
    have f4' : Fr q H (H4.set H1.length (.cells 0 false [sv, uv, .nils])) := (f2'.trans f4).setN f1.2 _
    have hl5 : H1.length < (H4.set H1.length (.cells 0 false [sv, uv, .nils])).length := by simp; omega
    generalize H4.set H1.length (.cells 0 false [sv, uv, .nils]) = H5 at *
    refine w_count g.count g.one s4' 1 (by omega) (by omega) (by omega) _ _ ?_ fun e => ?_
    rotate_left
    · intro t u H'
      simp [-List.getD_eq_getElem?_getD, -Int.ofNat_toNat, -getElem?_pos, er128_0, er128_1, er128_2, er128_3, er128_4, er128_5, er128_6, er128_7, er128_8, er128_9, er128_10, er128_11, er128_12, er128_13, er128_14, er128_15, er128_16, er128_17, er128_18, er128_20, er128_21, er128_23, er128_24, er128_25, er128_26, er128_27, er128_28, er128_29, er128_30, er128_31, er128_32, er128_33, er128_34, er128_35, er128_36, er128_37, er128_38, er128_39, er128_40, er128_41, er128_42, er128_43, er128_44, er128_45, er128_47, er128_48, er128_50, er128_51]
      exact hp (by simp only [bindP, e2, e4, treesP, e]) _ _ _
    intro n t0 H6 e6 s6 f6 hnt htl
    simp only [hid_k]
    have htrees : treesP l3 = repP treeP n t0 := by simp only [treesP, e6]
    have hl6 := f6.2
    have hb6 : H6[H1.length]? = some (.cells 0 false [sv, uv, .nils]) := by rw [f6.1 _ (by omega) hl5]; exact hb4'
    have o46 : OwnI false (H1.length + 1) H6 uv up := Own.keep o4' fun b hb hbv => f6.1 b (by have := (Own.blk o4' hbv).1; omega) hb
    have o26 : OwnR true (H1.length + 1) H6 sv sets := o2''.keep (fun b hb hb' => f6.1 b (by omega) hb') hl6
    have f6' : Fr q H H6 := f4'.trans f6
    simp [-List.getD_eq_getElem?_getD, -Int.ofNat_toNat, -getElem?_pos, er128_0, er128_1, er128_2, er128_3, er128_4, er128_5, er128_6, er128_7, er128_8, er128_9, er128_10, er128_11, er128_12, er128_13, er128_14, er128_15, er128_16, er128_17, er128_18, er128_20, er128_21, er128_23, er128_24, er128_25, er128_26, er128_27, er128_28, er128_29, er128_30, er128_31, er128_32, er128_33, er128_34, er128_35, er128_36, er128_37, er128_38, er128_39, er128_40, er128_41, er128_42, er128_43, er128_44, er128_45, er128_47, er128_48, er128_50, er128_51]
    refine pc_loopI (fun m st => ∃ (i : Nat) (acc : List (List (List Int))) (t : List Int) (tv p4 p5 p16 p17 p18 p19 : AV) (H' : Heap), i + m = n ∧ acc.length = i ∧ t.length ≤ t0.length ∧ repP treeP n t0 = (repP treeP (n - i) t).map (fun x => (acc ++ x.1, x.2)) ∧ SrcS true P q H' t ∧
        H'[H1.length]? = some (.cells 0 false [sv, uv, tv]) ∧ OwnG true true 3 H6.length H' tv (acc.map (eT 3)) ∧ (∀ k, k ≠ q → k ≠ H1.length → k < H6.length → H'[k]? = H6[k]?) ∧ H6.length ≤ H'.length ∧
        st = ([.ptr q 0 0, .nili, .un, .ptr H1.length 0 0, p4, p5, .un, .un, .un, .un, .un, .int .i64 2, .bool false, .bool true, .int .i64 n, .int .i64 i, p16, p17, p18, p19, .un, .un, .un, .un, .un, .un, .un, .un, .un], H')) n
      ⟨0, [], t0, _, _, _, _, _, _, _, H6, by simp, rfl, Nat.le_refl _, by simp, s6, hb6, ownG_nil _ _ _ _, fun _ _ _ _ => rfl, Nat.le_refl _, rfl⟩ ?_
    rintro m st ⟨i, acc, t, tv, p4, p5, p16, p17, p18, p19, H', hi, hacc, htl2, hrep, sA, hbA, oA, fA, hlA, rfl⟩
    have hqA := sA.lt
    by_cases hlt : i < n
    · have hlt' : (i : Int) < n := by omega
      have hiw := wrap1 hlt (by omega)
      obtain ⟨m', hm'⟩ : ∃ m', n - i = m' + 1 := ⟨n - i - 1, by omega⟩
      rw [hm'] at hrep
      simp [-List.getD_eq_getElem?_getD, -Int.ofNat_toNat, -getElem?_pos, er128_0, er128_1, er128_2, er128_3, er128_4, er128_5, er128_6, er128_7, er128_8, er128_9, er128_10, er128_11, er128_12, er128_13, er128_14, er128_15, er128_16, er128_17, er128_18, er128_20, er128_21, er128_23, er128_24, er128_25, er128_26, er128_27, er128_28, er128_29, er128_30, er128_31, er128_32, er128_33, er128_34, er128_35, er128_36, er128_37, er128_38, er128_39, er128_40, er128_41, er128_42, er128_43, er128_44, er128_45, er128_47, er128_48, er128_50, er128_51, hlt', hlt]
      refine w_count g.count g.one sA 3 (by omega) (by omega) (by omega) _ _ ?_ fun e => ?_
      rotate_left
      · intro tt u H'
        simp [-List.getD_eq_getElem?_getD, -Int.ofNat_toNat, -getElem?_pos, er128_0, er128_1, er128_2, er128_3, er128_4, er128_5, er128_6, er128_7, er128_8, er128_9, er128_10, er128_11, er128_12, er128_13, er128_14, er128_15, er128_16, er128_17, er128_18, er128_20, er128_21, er128_23, er128_24, er128_25, er128_26, er128_27, er128_28, er128_29, er128_30, er128_31, er128_32, er128_33, er128_34, er128_35, er128_36, er128_37, er128_38, er128_39, er128_40, er128_41, er128_42, er128_43, er128_44, er128_45, er128_47, er128_48, er128_50, er128_51]
        refine hp ?_ _ _ _
        have hno : treeP t = none := by simp only [treeP, e]
        simp only [bindP, e2, e4, htrees, hrep, repP, hno, Option.map_none]
      intro nn2 t1 H7 e7 s7 f7 hnt7 htl7
      simp only [hid_k]
      have htree : treeP t = repP (takeP 3) nn2 t1 := by simp only [treeP, e7]
      have hl7 := f7.2
      simp [-List.getD_eq_getElem?_getD, -Int.ofNat_toNat, -getElem?_pos, er128_0, er128_1, er128_2, er128_3, er128_4, er128_5, er128_6, er128_7, er128_8, er128_9, er128_10, er128_11, er128_12, er128_13, er128_14, er128_15, er128_16, er128_17, er128_18, er128_20, er128_21, er128_23, er128_24, er128_25, er128_26, er128_27, er128_28, er128_29, er128_30, er128_31, er128_32, er128_33, er128_34, er128_35, er128_36, er128_37, er128_38, er128_39, er128_40, er128_41, er128_42, er128_43, er128_44, er128_45, er128_47, er128_48, er128_50, er128_51]
      refine pc_loopI (fun m st => ∃ (i3 : Nat) (acc3 : List (List Int)) (t3 : List Int) (nv p5 p19 : AV) (H8 : Heap), i3 + m = nn2 ∧ acc3.length = i3 ∧ t3.length ≤ t1.length ∧ repP (takeP 3) nn2 t1 = (repP (takeP 3) (nn2 - i3) t3).map (fun x => (acc3 ++ x.1, x.2)) ∧ SrcS true P q H8 t3 ∧
          Own true H7.length H8 nv 3 acc3.length (cI acc3.flatten) ∧ (∀ k, k ≠ q → k < H7.length → H8[k]? = H7[k]?) ∧ H7.length ≤ H8.length ∧
          st = ([.ptr q 0 0, .nili, .un, .ptr H1.length 0 0, nv, p5, .un, .un, .un, .un, .un, .int .i64 2, .bool false, .bool true, .int .i64 n, .int .i64 i, .bool true, .int .i64 nn2, .int .i64 i3, p19, .un, .un, .un, .un, .un, .un, .un, .un, .un], H8)) nn2
        ⟨0, [], t1, _, _, _, H7, by simp, rfl, Nat.le_refl _, by simp, s7, own_nil _ _ _, fun _ _ _ => rfl, Nat.le_refl _, rfl⟩ ?_
      rintro m3 st3 ⟨i3, acc3, t3, nv, p5, p19, H8, hi3, hacc3, htl3, hrep3, s8, o8, f8, hl8, rfl⟩
      have hq8 := s8.lt
      by_cases hlt3 : i3 < nn2
      · have hlt3' : (i3 : Int) < nn2 := by omega
        have hi3w := wrap1 hlt3 (by omega)
        obtain ⟨m4, hm4⟩ : ∃ m4, nn2 - i3 = m4 + 1 := ⟨nn2 - i3 - 1, by omega⟩
        rw [hm4] at hrep3
        have hfail : takeP 3 t3 = none → (bindP (rowsP r) fun s l => bindP (rowP l) fun u l => bindP (treesP l) fun t l => some (some (CV.narrow s u t), l)) = none := fun hno => by
          have h1 : treeP t = none := by rw [htree, hrep3]; simp only [repP, hno, Option.map_none]
          simp only [bindP, e2, e4, htrees, hrep, repP, h1, Option.map_none]
        simp [-List.getD_eq_getElem?_getD, -Int.ofNat_toNat, -getElem?_pos, er128_0, er128_1, er128_2, er128_3, er128_4, er128_5, er128_6, er128_7, er128_8, er128_9, er128_10, er128_11, er128_12, er128_13, er128_14, er128_15, er128_16, er128_17, er128_18, er128_20, er128_21, er128_23, er128_24, er128_25, er128_26, er128_27, er128_28, er128_29, er128_30, er128_31, er128_32, er128_33, er128_34, er128_35, er128_36, er128_37, er128_38, er128_39, er128_40, er128_41, er128_42, er128_43, er128_44, er128_45, er128_47, er128_48, er128_50, er128_51, hlt3', hlt3]
        refine w_one g.one s8 _ _ ?_ fun e => ?_
        rotate_left
        · subst e
          intro tt u
          simp [-List.getD_eq_getElem?_getD, -Int.ofNat_toNat, -getElem?_pos, er128_0, er128_1, er128_2, er128_3, er128_4, er128_5, er128_6, er128_7, er128_8, er128_9, er128_10, er128_11, er128_12, er128_13, er128_14, er128_15, er128_16, er128_17, er128_18, er128_20, er128_21, er128_23, er128_24, er128_25, er128_26, er128_27, er128_28, er128_29, er128_30, er128_31, er128_32, er128_33, er128_34, er128_35, er128_36, er128_37, er128_38, er128_39, er128_40, er128_41, er128_42, er128_43, er128_44, er128_45, er128_47, er128_48, er128_50, er128_51]
          exact hp (hfail rfl) _ _ _
        intro x ta H9 e9 s9 f9
        subst e9
        have hl9 := f9.2
        simp only [hid_k]
        simp [-List.getD_eq_getElem?_getD, -Int.ofNat_toNat, -getElem?_pos, er128_0, er128_1, er128_2, er128_3, er128_4, er128_5, er128_6, er128_7, er128_8, er128_9, er128_10, er128_11, er128_12, er128_13, er128_14, er128_15, er128_16, er128_17, er128_18, er128_20, er128_21, er128_23, er128_24, er128_25, er128_26, er128_27, er128_28, er128_29, er128_30, er128_31, er128_32, er128_33, er128_34, er128_35, er128_36, er128_37, er128_38, er128_39, er128_40, er128_41, er128_42, er128_43, er128_44, er128_45, er128_47, er128_48, er128_50, er128_51, get_at, get_at0, set_at, set_at0, setAt]
        have s9' : SrcS true P q (H9 ++ [Ob.cells 0 false [.int .i64 x, .int .i64 0, .int .i64 0]]) ta := s9.keep fun k hk => List.getElem?_append_left (by omega)
        refine w_one g.one s9' _ _ ?_ fun e => ?_
        rotate_left
        · subst e
          intro tt u
          simp [-List.getD_eq_getElem?_getD, -Int.ofNat_toNat, -getElem?_pos, er128_0, er128_1, er128_2, er128_3, er128_4, er128_5, er128_6, er128_7, er128_8, er128_9, er128_10, er128_11, er128_12, er128_13, er128_14, er128_15, er128_16, er128_17, er128_18, er128_20, er128_21, er128_23, er128_24, er128_25, er128_26, er128_27, er128_28, er128_29, er128_30, er128_31, er128_32, er128_33, er128_34, er128_35, er128_36, er128_37, er128_38, er128_39, er128_40, er128_41, er128_42, er128_43, er128_44, er128_45, er128_47, er128_48, er128_50, er128_51]
          exact hp (hfail rfl) _ _ _
        intro y tb Ha ea sa fa
        subst ea
        have hla := fa.2
        simp only [List.length_append, List.length_singleton] at hla
        simp only [hid_k]
        have hba : Ha[H9.length]? = some (.cells 0 false [.int .i64 x, .int .i64 0, .int .i64 0]) := by rw [fa.1 _ (by omega) (by simp), get_at0]; rfl
        simp [-List.getD_eq_getElem?_getD, -Int.ofNat_toNat, -getElem?_pos, er128_0, er128_1, er128_2, er128_3, er128_4, er128_5, er128_6, er128_7, er128_8, er128_9, er128_10, er128_11, er128_12, er128_13, er128_14, er128_15, er128_16, er128_17, er128_18, er128_20, er128_21, er128_23, er128_24, er128_25, er128_26, er128_27, er128_28, er128_29, er128_30, er128_31, er128_32, er128_33, er128_34, er128_35, er128_36, er128_37, er128_38, er128_39, er128_40, er128_41, er128_42, er128_43, er128_44, er128_45, er128_47, er128_48, er128_50, er128_51, hba, setAt]
        have sa' : SrcS true P q (Ha.set H9.length (.cells 0 false [.int .i64 x, .int .i64 y, .int .i64 0])) tb := sa.keep fun k hk => List.getElem?_set_ne (by omega)
        refine w_one g.one sa' _ _ ?_ fun e => ?_
        rotate_left
        · subst e
          intro tt u
          simp [-List.getD_eq_getElem?_getD, -Int.ofNat_toNat, -getElem?_pos, er128_0, er128_1, er128_2, er128_3, er128_4, er128_5, er128_6, er128_7, er128_8, er128_9, er128_10, er128_11, er128_12, er128_13, er128_14, er128_15, er128_16, er128_17, er128_18, er128_20, er128_21, er128_23, er128_24, er128_25, er128_26, er128_27, er128_28, er128_29, er128_30, er128_31, er128_32, er128_33, er128_34, er128_35, er128_36, er128_37, er128_38, er128_39, er128_40, er128_41, er128_42, er128_43, er128_44, er128_45, er128_47, er128_48, er128_50, er128_51]
          exact hp (hfail rfl) _ _ _
        intro z tc Hb eb sb fb
        subst eb
        have hlb := fb.2
        simp only [List.length_set] at hlb
        simp only [hid_k]
        have hbb : Hb[H9.length]? = some (.cells 0 false [.int .i64 x, .int .i64 y, .int .i64 0]) := by rw [fb.1 _ (by omega) (by simp; omega), List.getElem?_set_self (by omega)]
        have hbb' : (Hb.set H9.length (.cells 0 false [.int .i64 x, .int .i64 y, .int .i64 z]))[H9.length]? = some (.cells 0 false [.int .i64 x, .int .i64 y, .int .i64 z]) := List.getElem?_set_self (by omega)
        have fall : ∀ k, k ≠ q → k < H8.length → (Hb.set H9.length (.cells 0 false [.int .i64 x, .int .i64 y, .int .i64 z]))[k]? = H8[k]? := fun k hk hkl => by
          rw [List.getElem?_set_ne (by omega), fb.1 k hk (by simp; omega), List.getElem?_set_ne (by omega), fa.1 k hk (by simp; omega), List.getElem?_append_left (by omega), f9.1 k hk hkl]
        have oJ : Own true H7.length (Hb.set H9.length (.cells 0 false [.int .i64 x, .int .i64 y, .int .i64 z])) nv 3 acc3.length (cI acc3.flatten) := Own.keep o8 fun b hb hbv => fall b (by have := (Own.blk o8 hbv).1; have := s7.lt; omega) hb
        have sb' : SrcS true P q (Hb.set H9.length (.cells 0 false [.int .i64 x, .int .i64 y, .int .i64 z])) tc := sb.keep fun k hk => List.getElem?_set_ne (by omega)
        have hlc : (Hb.set H9.length (.cells 0 false [.int .i64 x, .int .i64 y, .int .i64 z])).length = Hb.length := List.length_set
        obtain ⟨o3, H4', x1, x2, x3, x4, x5⟩ := Own.app1 (bytes := 24) (x := cI [x, y, z]) oJ rfl (ones_cI _) (by omega) (by omega)
        have cI3 : cI [x, y, z] = [.int .i64 x, .int .i64 y, .int .i64 z] := rfl
        rw [cI3, hlc] at x1
        have hnv : ∀ b, b < H7.length → blkOf nv ≠ some b := fun b hb e => by have := (Own.blk oJ e).1; omega
        have hq7 := s7.lt
        have hrep4 : repP (takeP 3) nn2 t1 = (repP (takeP 3) m4 tc).map (fun p => ((acc3 ++ [[x, y, z]]) ++ p.1, p.2)) := by
          rw [hrep3]
          have htk : takeP 3 (x :: y :: z :: tc) = some ([x, y, z], tc) := by simp [takeP]
          simp only [repP, htk]
          cases repP (takeP 3) m4 tc with
          | none => rfl
          | some w => obtain ⟨as, l''⟩ := w; simp
        simp only [List.length_cons] at htl3
        simp [-List.getD_eq_getElem?_getD, -Int.ofNat_toNat, -getElem?_pos, er128_0, er128_1, er128_2, er128_3, er128_4, er128_5, er128_6, er128_7, er128_8, er128_9, er128_10, er128_11, er128_12, er128_13, er128_14, er128_15, er128_16, er128_17, er128_18, er128_20, er128_21, er128_23, er128_24, er128_25, er128_26, er128_27, er128_28, er128_29, er128_30, er128_31, er128_32, er128_33, er128_34, er128_35, er128_36, er128_37, er128_38, er128_39, er128_40, er128_41, er128_42, er128_43, er128_44, er128_45, er128_47, er128_48, er128_50, er128_51, hbb, hbb', x1, setAt, hi3w]
        refine next_mk (m3 - 1) (by omega) ⟨i3 + 1, acc3 ++ [[x, y, z]], tc, _, _, _, _, by omega, by simp [hacc3], by omega, by rw [show nn2 - (i3 + 1) = m4 by omega]; exact hrep4, sb'.keep fun k hk => x3 k (by rw [hlc]; omega) (hnv k (by omega)), by simpa [cI_append] using x2, fun k hk hkl => by
          rw [x3 k (by rw [hlc]; omega) (hnv k hkl), fall k hk (by omega)]; exact f8 k hk hkl, by rw [hlc] at x4; omega, rfl⟩
      · have hlt3' : ¬ (i3 : Int) < nn2 := by omega
        have hie3 : nn2 - i3 = 0 := by omega
        rw [hie3] at hrep3
        simp only [repP, Option.map_some, List.append_nil] at hrep3
        have htr : treeP t = some (acc3, t3) := by rw [htree, hrep3]
        simp only [repP, htr] at hrep
        have hb8 : H8[H1.length]? = some (.cells 0 false [sv, uv, tv]) := by rw [f8 _ (by omega) (by omega), f7.1 _ (by omega) (by omega)]; exact hbA
        have oA8 : OwnG true true 3 H6.length H8 tv (acc.map (eT 3)) := oA.keep (fun b hb hb' => by rw [f8 b (by omega) (by omega)]; exact f7.1 b (by omega) hb') (by omega)
        obtain ⟨ov, H9, x1, x2, x3, x4, x5, x6⟩ := oA8.app1 (x := eT 3 acc3) (Own.vw o8) (closeds_cI _) (fun b hbl => by
          obtain ⟨b1, b2⟩ := Own.blk o8 hbl
          refine ⟨by omega, b2, fun e => ?_⟩
          obtain ⟨rs, w1, _⟩ := oA
          have := (Own.blk w1 e).2
          omega) (by omega) (by rw [List.length_map]; omega)
        have hb9 : H9[H1.length]? = some (.cells 0 false [sv, uv, tv]) := by rw [x3 _ (by omega)]; exact hb8
        have o1 := Own.one o8
        have o2 := Own.cells o8
        have o3 := Own.part o8
        have hrep5 : repP treeP n t0 = (repP treeP m' t3).map (fun p => ((acc ++ [acc3]) ++ p.1, p.2)) := by
          rw [hrep]
          cases repP treeP m' t3 with
          | none => rfl
          | some w => obtain ⟨as, l''⟩ := w; simp
        simp [-List.getD_eq_getElem?_getD, -Int.ofNat_toNat, -getElem?_pos, er128_0, er128_1, er128_2, er128_3, er128_4, er128_5, er128_6, er128_7, er128_8, er128_9, er128_10, er128_11, er128_12, er128_13, er128_14, er128_15, er128_16, er128_17, er128_18, er128_20, er128_21, er128_23, er128_24, er128_25, er128_26, er128_27, er128_28, er128_29, er128_30, er128_31, er128_32, er128_33, er128_34, er128_35, er128_36, er128_37, er128_38, er128_39, er128_40, er128_41, er128_42, er128_43, er128_44, er128_45, er128_47, er128_48, er128_50, er128_51, hlt3', hlt3, hb8, hb9, o1, o2, o3, x1, x5, x6, setAt, hiw]
        refine next_mk (m - 1) (by omega) ⟨i + 1, acc ++ [acc3], t3, _, _, _, _, _, _, _, _, by omega, by simp [hacc], by omega, by rw [show n - (i + 1) = m' by omega]; exact hrep5, s8.keep fun k hk => by rw [List.getElem?_set_ne (by omega)]; exact x3 k (by omega), List.getElem?_set_self (by omega), ?_, fun k hk hk1 hkl => ?_, by simp; omega, rfl⟩
        · rw [List.map_append]
          exact OwnG.keep x2 (fun b hb _ => List.getElem?_set_ne (by omega)) (by simp)
        · rw [List.getElem?_set_ne (fun e => hk1 e.symm), x3 k hkl, f8 k hk (by omega), f7.1 k hk (by omega)]; exact fA k hk hk1 hkl
    · have hlt' : ¬ (i : Int) < n := by omega
      have hie : n - i = 0 := by omega
      rw [hie] at hrep
      simp only [repP, Option.map_some, List.append_nil] at hrep
      have o4z : OwnI false (H1.length + 1) H' uv up := Own.keep o46 fun b hb hbv => fA b (by have := (Own.blk o46 hbv).1; omega) (by have := (Own.blk o46 hbv).1; omega) hb
      have o2z : OwnR true (H1.length + 1) H' sv sets := o26.keep (fun b hb hb' => fA b (by omega) (by omega) hb') hlA
      obtain ⟨bs, hs⟩ := o2z.seesF
      obtain ⟨bs2, hs2⟩ := (OwnG.vw oA).sees
      have et : ((acc.map (eT 3)).map fun x => rv true x.1 3 x.2) = acc.map (rC 3) := by rw [List.map_map]; rfl
      rw [et, List.length_map] at hs2
      have hv : viewR H' (.iface (φ 91) (.agg [sv, uv, tv])) = some (cvO φ (some (.narrow sets up acc))) := by
        refine (SeesF.iface (SeesL.agg (SeesL.cons hs (SeesL.cons (((Own.vw o4z).seesF (closeds_cI _)).mono (by omega)) (SeesL.cons hs2 ((seesL_nil _).mono (by omega)) (by omega)) (by omega)) (by omega))) _).vr (by omega) |>.trans ?_
        simp [cvO, cvV, rv]
      have fz : Fr q H H' := ⟨fun k hk hkl => by
        rw [fA k hk (by have := f1.2; omega) (by have := f6'.2; omega)]; exact f6'.1 k hk hkl, by have := f6'.2; omega⟩
      have hk := hK _ _ _ _ (by simp only [bindP, e2, e4, htrees, hrep]) sA hv fz
      simp [-List.getD_eq_getElem?_getD, -Int.ofNat_toNat, -getElem?_pos, er128_0, er128_1, er128_2, er128_3, er128_4, er128_5, er128_6, er128_7, er128_8, er128_9, er128_10, er128_11, er128_12, er128_13, er128_14, er128_15, er128_16, er128_17, er128_18, er128_20, er128_21, er128_23, er128_24, er128_25, er128_26, er128_27, er128_28, er128_29, er128_30, er128_31, er128_32, er128_33, er128_34, er128_35, er128_36, er128_37, er128_38, er128_39, er128_40, er128_41, er128_42, er128_43, er128_44, er128_45, er128_47, er128_48, er128_50, er128_51, hlt', hlt, hbA, Own.one o4z, Own.cells o4z, Own.part o4z, o2z.one, o2z.cells, o2z.part, oA.one, oA.cells, oA.part, resK, resVs, resV, pack]
      exact hk
  by_cases k3 : k = 3
  · subst k3
    have hc : certP (3 :: r) = bindP (rowP r) fun o l => some (some (.ring o), l) := rfl
    rw [hc] at hK hp
    simp [-List.getD_eq_getElem?_getD, -Int.ofNat_toNat, -getElem?_pos, er128_0, er128_1, er128_2, er128_3, er128_4, er128_5, er128_6, er128_7, er128_8, er128_9, er128_10, er128_11, er128_12, er128_13, er128_14, er128_15, er128_16, er128_17, er128_18, er128_20, er128_21, er128_23, er128_24, er128_25, er128_26, er128_27, er128_28, er128_29, er128_30, er128_31, er128_32, er128_33, er128_34, er128_35, er128_36, er128_37, er128_38, er128_39, er128_40, er128_41, er128_42, er128_43, er128_44, er128_45, er128_47, er128_48, er128_50, er128_51]
    refine w_row g.row g.count g.one g.clone s1 hr _ _ ?_ fun e => ?_
    rotate_left
    · intro t u H'
      simp [-List.getD_eq_getElem?_getD, -Int.ofNat_toNat, -getElem?_pos, er128_0, er128_1, er128_2, er128_3, er128_4, er128_5, er128_6, er128_7, er128_8, er128_9, er128_10, er128_11, er128_12, er128_13, er128_14, er128_15, er128_16, er128_17, er128_18, er128_20, er128_21, er128_23, er128_24, er128_25, er128_26, er128_27, er128_28, er128_29, er128_30, er128_31, er128_32, er128_33, er128_34, er128_35, er128_36, er128_37, er128_38, er128_39, er128_40, er128_41, er128_42, er128_43, er128_44, er128_45, er128_47, er128_48, er128_50, er128_51]
      exact hp (by rw [e]; rfl) _ _ _
    intro o l ov H2 e2 s2 o2 f2 l2 _
    simp only [hid_k]
    have hv : viewR H2 (.iface (φ 97) (.agg [ov])) = some (cvO φ (some (.ring o))) := by
      refine (SeesF.iface (SeesL.agg (SeesL.cons (((Own.vw o2).seesF (closeds_cI o)).mono (e := 4) (by omega)) ((seesL_nil _).mono (by omega)) (by omega))) _).vr (by omega) |>.trans ?_
      simp [cvO, cvV, rv]
    have hk := hK _ _ _ H2 (by rw [e2]; rfl) s2 hv (f1.trans f2)
    simp [-List.getD_eq_getElem?_getD, -Int.ofNat_toNat, -getElem?_pos, er128_0, er128_1, er128_2, er128_3, er128_4, er128_5, er128_6, er128_7, er128_8, er128_9, er128_10, er128_11, er128_12, er128_13, er128_14, er128_15, er128_16, er128_17, er128_18, er128_20, er128_21, er128_23, er128_24, er128_25, er128_26, er128_27, er128_28, er128_29, er128_30, er128_31, er128_32, er128_33, er128_34, er128_35, er128_36, er128_37, er128_38, er128_39, er128_40, er128_41, er128_42, er128_43, er128_44, er128_45, er128_47, er128_48, er128_50, er128_51, Own.one o2, Own.cells o2, Own.part o2, resK, resVs, resV, pack]
    exact hk
  by_cases k4 : k = 4
  · subst k4
    have hc : certP (4 :: r) = bindP (oneP r) fun k l => bindP (rowP l) fun t l => bindP (rowsP l) fun p l => some (some (.bar k t p), l) := rfl
    rw [hc] at hK hp
    simp [-List.getD_eq_getElem?_getD, -Int.ofNat_toNat, -getElem?_pos, er128_0, er128_1, er128_2, er128_3, er128_4, er128_5, er128_6, er128_7, er128_8, er128_9, er128_10, er128_11, er128_12, er128_13, er128_14, er128_15, er128_16, er128_17, er128_18, er128_20, er128_21, er128_23, er128_24, er128_25, er128_26, er128_27, er128_28, er128_29, er128_30, er128_31, er128_32, er128_33, er128_34, er128_35, er128_36, er128_37, er128_38, er128_39, er128_40, er128_41, er128_42, er128_43, er128_44, er128_45, er128_47, er128_48, er128_50, er128_51]
    refine w_one g.one s1 _ _ ?_ fun e => ?_
    rotate_left
    · subst e
      intro t u
      simp [-List.getD_eq_getElem?_getD, -Int.ofNat_toNat, -getElem?_pos, er128_0, er128_1, er128_2, er128_3, er128_4, er128_5, er128_6, er128_7, er128_8, er128_9, er128_10, er128_11, er128_12, er128_13, er128_14, er128_15, er128_16, er128_17, er128_18, er128_20, er128_21, er128_23, er128_24, er128_25, er128_26, er128_27, er128_28, er128_29, er128_30, er128_31, er128_32, er128_33, er128_34, er128_35, er128_36, er128_37, er128_38, er128_39, er128_40, er128_41, er128_42, er128_43, er128_44, er128_45, er128_47, er128_48, er128_50, er128_51]
      exact hp rfl _ _ _
    intro kd l1 H2 e2 s2 f2
    subst e2
    simp only [List.length_cons] at hr
    simp only [hid_k]
    have hq1 := s2.lt
    simp [-List.getD_eq_getElem?_getD, -Int.ofNat_toNat, -getElem?_pos, er128_0, er128_1, er128_2, er128_3, er128_4, er128_5, er128_6, er128_7, er128_8, er128_9, er128_10, er128_11, er128_12, er128_13, er128_14, er128_15, er128_16, er128_17, er128_18, er128_20, er128_21, er128_23, er128_24, er128_25, er128_26, er128_27, er128_28, er128_29, er128_30, er128_31, er128_32, er128_33, er128_34, er128_35, er128_36, er128_37, er128_38, er128_39, er128_40, er128_41, er128_42, er128_43, er128_44, er128_45, er128_47, er128_48, er128_50, er128_51, get_at, get_at0, set_at, set_at0, setAt]
    have s2' : SrcS true P q (H2 ++ [Ob.cells 0 false [.int .i64 kd, .nils, .nils]]) l1 := s2.keep fun k hk => List.getElem?_append_left (by omega)
    refine w_row g.row g.count g.one g.clone s2' (by omega) _ _ ?_ fun e => ?_
    rotate_left
    · intro t u H'
      simp [-List.getD_eq_getElem?_getD, -Int.ofNat_toNat, -getElem?_pos, er128_0, er128_1, er128_2, er128_3, er128_4, er128_5, er128_6, er128_7, er128_8, er128_9, er128_10, er128_11, er128_12, er128_13, er128_14, er128_15, er128_16, er128_17, er128_18, er128_20, er128_21, er128_23, er128_24, er128_25, er128_26, er128_27, er128_28, er128_29, er128_30, er128_31, er128_32, er128_33, er128_34, er128_35, er128_36, er128_37, er128_38, er128_39, er128_40, er128_41, er128_42, er128_43, er128_44, er128_45, er128_47, er128_48, er128_50, er128_51]
      exact hp (by simp only [bindP, oneP, e]) _ _ _
    intro o l2 ov H3 e3 s3 o3 f3 _ _
    simp only [hid_k]
    have hb3 : H3[H2.length]? = some (.cells 0 false [.int .i64 kd, .nils, .nils]) := by rw [f3.1 _ (by omega) (by simp), get_at0]; rfl
    have hl3 := f3.2
    simp only [List.length_append, List.length_singleton] at hl3 o3
    simp [-List.getD_eq_getElem?_getD, -Int.ofNat_toNat, -getElem?_pos, er128_0, er128_1, er128_2, er128_3, er128_4, er128_5, er128_6, er128_7, er128_8, er128_9, er128_10, er128_11, er128_12, er128_13, er128_14, er128_15, er128_16, er128_17, er128_18, er128_20, er128_21, er128_23, er128_24, er128_25, er128_26, er128_27, er128_28, er128_29, er128_30, er128_31, er128_32, er128_33, er128_34, er128_35, er128_36, er128_37, er128_38, er128_39, er128_40, er128_41, er128_42, er128_43, er128_44, er128_45, er128_47, er128_48, er128_50, er128_51, hb3, Own.one o3, Own.cells o3, setAt]
    have s3' : SrcS true P q (H3.set H2.length (.cells 0 false [.int .i64 kd, ov, .nils])) l2 := s3.keep fun k hk => List.getElem?_set_ne (by omega)
    have o3' : OwnI false (H2.length + 1) (H3.set H2.length (.cells 0 false [.int .i64 kd, ov, .nils])) ov o := Own.keep o3 fun b hb hbv => List.getElem?_set_ne (by have := (Own.blk o3 hbv).1; omega)
    have hb3' : (H3.set H2.length (.cells 0 false [.int .i64 kd, ov, .nils]))[H2.length]? = some (.cells 0 false [.int .i64 kd, ov, .nils]) := List.getElem?_set_self (by omega)
    have f3' : Fr q H (H3.set H2.length (.cells 0 false [.int .i64 kd, ov, .nils])) := (((f1.trans f2).app _).trans f3).setN (f1.trans f2).2 _
    have hl4 : H2.length < (H3.set H2.length (.cells 0 false [.int .i64 kd, ov, .nils])).length := by simp; omega
    generalize H3.set H2.length (.cells 0 false [.int .i64 kd, ov, .nils]) = H4 at *
    refine w_rows g.rows g.row g.count g.one g.clone s3' (by omega) _ _ ?_ fun e => ?_
    rotate_left
    · intro t u H'
      simp [-List.getD_eq_getElem?_getD, -Int.ofNat_toNat, -getElem?_pos, er128_0, er128_1, er128_2, er128_3, er128_4, er128_5, er128_6, er128_7, er128_8, er128_9, er128_10, er128_11, er128_12, er128_13, er128_14, er128_15, er128_16, er128_17, er128_18, er128_20, er128_21, er128_23, er128_24, er128_25, er128_26, er128_27, er128_28, er128_29, er128_30, er128_31, er128_32, er128_33, er128_34, er128_35, er128_36, er128_37, er128_38, er128_39, er128_40, er128_41, er128_42, er128_43, er128_44, er128_45, er128_47, er128_48, er128_50, er128_51]
      exact hp (by simp only [bindP, oneP, e3, e]) _ _ _
    intro p l3 pv H5 e4 s5 o5 f5 _ _
    simp only [hid_k]
    have hb5 : H5[H2.length]? = some (.cells 0 false [.int .i64 kd, ov, .nils]) := by rw [f5.1 _ (by omega) hl4]; exact hb3'
    have hl5 := f5.2
    have o5' : OwnR true H4.length (H5.set H2.length (.cells 0 false [.int .i64 kd, ov, pv])) pv p := o5.keep (fun b hb hb' => List.getElem?_set_ne (by omega)) (by simp)
    have o3'' : OwnI false (H2.length + 1) (H5.set H2.length (.cells 0 false [.int .i64 kd, ov, pv])) ov o := Own.keep o3' fun b hb hbv => by
      have := (Own.blk o3' hbv).1
      rw [List.getElem?_set_ne (by omega)]; exact f5.1 b (by omega) hb
    obtain ⟨bs, hs⟩ := o5'.seesF
    have hset : (H5.set H2.length (.cells 0 false [.int .i64 kd, ov, pv]))[H2.length]? = some (.cells 0 false [.int .i64 kd, ov, pv]) := List.getElem?_set_self (by omega)
    have hv : viewR (H5.set H2.length (.cells 0 false [.int .i64 kd, ov, pv])) (.iface (φ 87) (.agg [.int .i64 kd, ov, pv])) = some (cvO φ (some (.bar kd o p))) := by
      refine (SeesF.iface (SeesL.agg (SeesL.cons ((seesF_closed rfl).mono (e := 4) (by omega)) (SeesL.cons (((Own.vw o3'').seesF (closeds_cI o)).mono (by omega)) (SeesL.cons hs ((seesL_nil _).mono (by omega)) (by omega)) (by omega)) (by omega))) _).vr (by omega) |>.trans ?_
      simp [cvO, cvV, rv]
    have hk := hK _ _ _ _ (by simp only [bindP, oneP, e3, e4]) (s5.keep fun k hk => List.getElem?_set_ne (by omega)) hv ((f3'.trans f5).setN (f1.trans f2).2 _)
    simp [-List.getD_eq_getElem?_getD, -Int.ofNat_toNat, -getElem?_pos, er128_0, er128_1, er128_2, er128_3, er128_4, er128_5, er128_6, er128_7, er128_8, er128_9, er128_10, er128_11, er128_12, er128_13, er128_14, er128_15, er128_16, er128_17, er128_18, er128_20, er128_21, er128_23, er128_24, er128_25, er128_26, er128_27, er128_28, er128_29, er128_30, er128_31, er128_32, er128_33, er128_34, er128_35, er128_36, er128_37, er128_38, er128_39, er128_40, er128_41, er128_42, er128_43, er128_44, er128_45, er128_47, er128_48, er128_50, er128_51, hb5, hset, Own.one o3'', Own.cells o3'', Own.part o3'', o5.one, o5.cells, o5.part, setAt, resK, resVs, resV, pack]
    exact hk
  by_cases k5 : k = 5
  · subst k5
    have hc : certP (5 :: r) = bindP (oneP r) fun a l => bindP (oneP l) fun b l => bindP (rowP l) fun o l => some (some (.gap a b o), l) := rfl
    rw [hc] at hK hp
    simp [-List.getD_eq_getElem?_getD, -Int.ofNat_toNat, -getElem?_pos, er128_0, er128_1, er128_2, er128_3, er128_4, er128_5, er128_6, er128_7, er128_8, er128_9, er128_10, er128_11, er128_12, er128_13, er128_14, er128_15, er128_16, er128_17, er128_18, er128_20, er128_21, er128_23, er128_24, er128_25, er128_26, er128_27, er128_28, er128_29, er128_30, er128_31, er128_32, er128_33, er128_34, er128_35, er128_36, er128_37, er128_38, er128_39, er128_40, er128_41, er128_42, er128_43, er128_44, er128_45, er128_47, er128_48, er128_50, er128_51]
    refine w_one g.one s1 _ _ ?_ fun e => ?_
    rotate_left
    · subst e
      intro t u
      simp [-List.getD_eq_getElem?_getD, -Int.ofNat_toNat, -getElem?_pos, er128_0, er128_1, er128_2, er128_3, er128_4, er128_5, er128_6, er128_7, er128_8, er128_9, er128_10, er128_11, er128_12, er128_13, er128_14, er128_15, er128_16, er128_17, er128_18, er128_20, er128_21, er128_23, er128_24, er128_25, er128_26, er128_27, er128_28, er128_29, er128_30, er128_31, er128_32, er128_33, er128_34, er128_35, er128_36, er128_37, er128_38, er128_39, er128_40, er128_41, er128_42, er128_43, er128_44, er128_45, er128_47, er128_48, er128_50, er128_51]
      exact hp rfl _ _ _
    intro a l1 H2 e2 s2 f2
    subst e2
    simp only [List.length_cons] at hr
    simp only [hid_k]
    have hq1 := s2.lt
    simp [-List.getD_eq_getElem?_getD, -Int.ofNat_toNat, -getElem?_pos, er128_0, er128_1, er128_2, er128_3, er128_4, er128_5, er128_6, er128_7, er128_8, er128_9, er128_10, er128_11, er128_12, er128_13, er128_14, er128_15, er128_16, er128_17, er128_18, er128_20, er128_21, er128_23, er128_24, er128_25, er128_26, er128_27, er128_28, er128_29, er128_30, er128_31, er128_32, er128_33, er128_34, er128_35, er128_36, er128_37, er128_38, er128_39, er128_40, er128_41, er128_42, er128_43, er128_44, er128_45, er128_47, er128_48, er128_50, er128_51, get_at, get_at0, set_at, set_at0, setAt]
    have s2' : SrcS true P q (H2 ++ [Ob.cells 0 false [.int .i64 a, .int .i64 0, .nils]]) l1 := s2.keep fun k hk => List.getElem?_append_left (by omega)
    refine w_one g.one s2' _ _ ?_ fun e => ?_
    rotate_left
    · subst e
      intro t u
      simp [-List.getD_eq_getElem?_getD, -Int.ofNat_toNat, -getElem?_pos, er128_0, er128_1, er128_2, er128_3, er128_4, er128_5, er128_6, er128_7, er128_8, er128_9, er128_10, er128_11, er128_12, er128_13, er128_14, er128_15, er128_16, er128_17, er128_18, er128_20, er128_21, er128_23, er128_24, er128_25, er128_26, er128_27, er128_28, er128_29, er128_30, er128_31, er128_32, er128_33, er128_34, er128_35, er128_36, er128_37, er128_38, er128_39, er128_40, er128_41, er128_42, er128_43, er128_44, er128_45, er128_47, er128_48, er128_50, er128_51]
      exact hp rfl _ _ _
    intro b l2 H3 e3 s3 f3
    subst e3
    simp only [List.length_cons] at hr
    simp only [hid_k]
    have hb3 : H3[H2.length]? = some (.cells 0 false [.int .i64 a, .int .i64 0, .nils]) := by rw [f3.1 _ (by omega) (by simp), get_at0]; rfl
    have hl3 := f3.2
    simp only [List.length_append, List.length_singleton] at hl3
    simp [-List.getD_eq_getElem?_getD, -Int.ofNat_toNat, -getElem?_pos, er128_0, er128_1, er128_2, er128_3, er128_4, er128_5, er128_6, er128_7, er128_8, er128_9, er128_10, er128_11, er128_12, er128_13, er128_14, er128_15, er128_16, er128_17, er128_18, er128_20, er128_21, er128_23, er128_24, er128_25, er128_26, er128_27, er128_28, er128_29, er128_30, er128_31, er128_32, er128_33, er128_34, er128_35, er128_36, er128_37, er128_38, er128_39, er128_40, er128_41, er128_42, er128_43, er128_44, er128_45, er128_47, er128_48, er128_50, er128_51, hb3, setAt]
    have s3' : SrcS true P q (H3.set H2.length (.cells 0 false [.int .i64 a, .int .i64 b, .nils])) l2 := s3.keep fun k hk => List.getElem?_set_ne (by omega)
    have hb3' : (H3.set H2.length (.cells 0 false [.int .i64 a, .int .i64 b, .nils]))[H2.length]? = some (.cells 0 false [.int .i64 a, .int .i64 b, .nils]) := List.getElem?_set_self (by omega)
    have f3' : Fr q H (H3.set H2.length (.cells 0 false [.int .i64 a, .int .i64 b, .nils])) := (((f1.trans f2).app _).trans f3).setN (f1.trans f2).2 _
    have hl4 : H2.length < (H3.set H2.length (.cells 0 false [.int .i64 a, .int .i64 b, .nils])).length := by simp; omega
    generalize H3.set H2.length (.cells 0 false [.int .i64 a, .int .i64 b, .nils]) = H4 at *
    refine w_row g.row g.count g.one g.clone s3' (by omega) _ _ ?_ fun e => ?_
    rotate_left
    · intro t u H'
      simp [-List.getD_eq_getElem?_getD, -Int.ofNat_toNat, -getElem?_pos, er128_0, er128_1, er128_2, er128_3, er128_4, er128_5, er128_6, er128_7, er128_8, er128_9, er128_10, er128_11, er128_12, er128_13, er128_14, er128_15, er128_16, er128_17, er128_18, er128_20, er128_21, er128_23, er128_24, er128_25, er128_26, er128_27, er128_28, er128_29, er128_30, er128_31, er128_32, er128_33, er128_34, er128_35, er128_36, er128_37, er128_38, er128_39, er128_40, er128_41, er128_42, er128_43, er128_44, er128_45, er128_47, er128_48, er128_50, er128_51]
      exact hp (by simp only [bindP, oneP, e]) _ _ _
    intro o l3 ov H5 e4 s5 o5 f5 _ _
    simp only [hid_k]
    have hb5 : H5[H2.length]? = some (.cells 0 false [.int .i64 a, .int .i64 b, .nils]) := by rw [f5.1 _ (by omega) hl4]; exact hb3'
    have hl5 := f5.2
    have o5' : OwnI false H4.length (H5.set H2.length (.cells 0 false [.int .i64 a, .int .i64 b, ov])) ov o := Own.keep o5 fun b hb hbv => List.getElem?_set_ne (by have := (Own.blk o5 hbv).1; omega)
    have hset : (H5.set H2.length (.cells 0 false [.int .i64 a, .int .i64 b, ov]))[H2.length]? = some (.cells 0 false [.int .i64 a, .int .i64 b, ov]) := List.getElem?_set_self (by omega)
    have hv : viewR (H5.set H2.length (.cells 0 false [.int .i64 a, .int .i64 b, ov])) (.iface (φ 89) (.agg [.int .i64 a, .int .i64 b, ov])) = some (cvO φ (some (.gap a b o))) := by
      refine (SeesF.iface (SeesL.agg (SeesL.cons ((seesF_closed rfl).mono (e := 4) (by omega)) (SeesL.cons ((seesF_closed rfl).mono (by omega)) (SeesL.cons (((Own.vw o5').seesF (closeds_cI o)).mono (by omega)) ((seesL_nil _).mono (by omega)) (by omega)) (by omega)) (by omega))) _).vr (by omega) |>.trans ?_
      simp [cvO, cvV, rv]
    have hk := hK _ _ _ _ (by simp only [bindP, oneP, e4]) (s5.keep fun k hk => List.getElem?_set_ne (by omega)) hv ((f3'.trans f5).setN (f1.trans f2).2 _)
    simp [-List.getD_eq_getElem?_getD, -Int.ofNat_toNat, -getElem?_pos, er128_0, er128_1, er128_2, er128_3, er128_4, er128_5, er128_6, er128_7, er128_8, er128_9, er128_10, er128_11, er128_12, er128_13, er128_14, er128_15, er128_16, er128_17, er128_18, er128_20, er128_21, er128_23, er128_24, er128_25, er128_26, er128_27, er128_28, er128_29, er128_30, er128_31, er128_32, er128_33, er128_34, er128_35, er128_36, er128_37, er128_38, er128_39, er128_40, er128_41, er128_42, er128_43, er128_44, er128_45, er128_47, er128_48, er128_50, er128_51, hb5, hset, Own.one o5', Own.cells o5', Own.part o5', setAt, resK, resVs, resV, pack]
    exact hk
  by_cases k6 : k = 6
  · subst k6
    have hc : certP (6 :: r) = bindP (oneP r) fun e l => bindP (cutsP l) fun c l => some (some (.refusal e c), l) := rfl
    rw [hc] at hK hp
    simp [-List.getD_eq_getElem?_getD, -Int.ofNat_toNat, -getElem?_pos, er128_0, er128_1, er128_2, er128_3, er128_4, er128_5, er128_6, er128_7, er128_8, er128_9, er128_10, er128_11, er128_12, er128_13, er128_14, er128_15, er128_16, er128_17, er128_18, er128_20, er128_21, er128_23, er128_24, er128_25, er128_26, er128_27, er128_28, er128_29, er128_30, er128_31, er128_32, er128_33, er128_34, er128_35, er128_36, er128_37, er128_38, er128_39, er128_40, er128_41, er128_42, er128_43, er128_44, er128_45, er128_47, er128_48, er128_50, er128_51]
    refine w_one g.one s1 _ _ ?_ fun e => ?_
    rotate_left
    · subst e
      intro t u
      simp [-List.getD_eq_getElem?_getD, -Int.ofNat_toNat, -getElem?_pos, er128_0, er128_1, er128_2, er128_3, er128_4, er128_5, er128_6, er128_7, er128_8, er128_9, er128_10, er128_11, er128_12, er128_13, er128_14, er128_15, er128_16, er128_17, er128_18, er128_20, er128_21, er128_23, er128_24, er128_25, er128_26, er128_27, er128_28, er128_29, er128_30, er128_31, er128_32, er128_33, er128_34, er128_35, er128_36, er128_37, er128_38, er128_39, er128_40, er128_41, er128_42, er128_43, er128_44, er128_45, er128_47, er128_48, er128_50, er128_51]
      exact hp rfl _ _ _
    intro a l1 H2 e2 s2 f2
    subst e2
    simp only [List.length_cons] at hr
    simp only [hid_k]
    have hq1 := s2.lt
    simp [-List.getD_eq_getElem?_getD, -Int.ofNat_toNat, -getElem?_pos, er128_0, er128_1, er128_2, er128_3, er128_4, er128_5, er128_6, er128_7, er128_8, er128_9, er128_10, er128_11, er128_12, er128_13, er128_14, er128_15, er128_16, er128_17, er128_18, er128_20, er128_21, er128_23, er128_24, er128_25, er128_26, er128_27, er128_28, er128_29, er128_30, er128_31, er128_32, er128_33, er128_34, er128_35, er128_36, er128_37, er128_38, er128_39, er128_40, er128_41, er128_42, er128_43, er128_44, er128_45, er128_47, er128_48, er128_50, er128_51, get_at, get_at0, set_at, set_at0, setAt]
    have s2' : SrcS true P q (H2 ++ [Ob.cells 0 false [.int .i64 a, .nils]]) l1 := s2.keep fun k hk => List.getElem?_append_left (by omega)
    refine w_count g.count g.one s2' 6 (by omega) (by omega) (by omega) _ _ ?_ fun e => ?_
    rotate_left
    · intro t u H'
      simp [-List.getD_eq_getElem?_getD, -Int.ofNat_toNat, -getElem?_pos, er128_0, er128_1, er128_2, er128_3, er128_4, er128_5, er128_6, er128_7, er128_8, er128_9, er128_10, er128_11, er128_12, er128_13, er128_14, er128_15, er128_16, er128_17, er128_18, er128_20, er128_21, er128_23, er128_24, er128_25, er128_26, er128_27, er128_28, er128_29, er128_30, er128_31, er128_32, er128_33, er128_34, er128_35, er128_36, er128_37, er128_38, er128_39, er128_40, er128_41, er128_42, er128_43, er128_44, er128_45, er128_47, er128_48, er128_50, er128_51]
      exact hp (by simp only [bindP, oneP, cutsP, e]) _ _ _
    intro n t0 H3 e3 s3 f3 hnt htl
    simp only [hid_k]
    have hcuts : cutsP l1 = repP (takeP 6) n t0 := by simp only [cutsP, e3]
    have hb3 : H3[H2.length]? = some (.cells 0 false [.int .i64 a, .nils]) := by rw [f3.1 _ (by omega) (by simp), get_at0]; rfl
    have hl3 := f3.2
    simp only [List.length_append, List.length_singleton] at hl3
    have f3' : Fr q H H3 := ((f1.trans f2).app _).trans f3
    simp [-List.getD_eq_getElem?_getD, -Int.ofNat_toNat, -getElem?_pos, er128_0, er128_1, er128_2, er128_3, er128_4, er128_5, er128_6, er128_7, er128_8, er128_9, er128_10, er128_11, er128_12, er128_13, er128_14, er128_15, er128_16, er128_17, er128_18, er128_20, er128_21, er128_23, er128_24, er128_25, er128_26, er128_27, er128_28, er128_29, er128_30, er128_31, er128_32, er128_33, er128_34, er128_35, er128_36, er128_37, er128_38, er128_39, er128_40, er128_41, er128_42, er128_43, er128_44, er128_45, er128_47, er128_48, er128_50, er128_51]
    refine pc_loopI (fun m st => ∃ (i : Nat) (acc : List (List Int)) (t : List Int) (cv p9 p10 p26 p27 p28 : AV) (H' : Heap), i + m = n ∧ acc.length = i ∧ t.length ≤ t0.length ∧ repP (takeP 6) n t0 = (repP (takeP 6) (n - i) t).map (fun x => (acc ++ x.1, x.2)) ∧ SrcS true P q H' t ∧
        H'[H2.length]? = some (.cells 0 false [.int .i64 a, cv]) ∧ Own true H3.length H' cv 6 acc.length (cI acc.flatten) ∧ Fr q H H' ∧ H3.length ≤ H'.length ∧
        st = ([.ptr q 0 0, .nili, .un, .un, .un, .un, .un, .un, .ptr H2.length 0 0, p9, p10, .int .i64 6, .bool false, .bool false, .un, .un, .un, .un, .un, .un, .bool false, .bool false, .bool false, .bool true, .int .i64 n, .int .i64 i, p26, p27, p28], H')) n
      ⟨0, [], t0, _, _, _, _, _, _, H3, by simp, rfl, Nat.le_refl _, by simp, s3, hb3, own_nil _ _ _, f3', Nat.le_refl _, rfl⟩ ?_
    rintro m st ⟨i, acc, t, cv, p9, p10, p26, p27, p28, H', hi, hacc, htl2, hrep, sA, hbA, oA, fA, hlA, rfl⟩
    have hqA := sA.lt
    by_cases hlt : i < n
    · have hlt' : (i : Int) < n := by omega
      have hiw := wrap1 hlt (by omega)
      obtain ⟨m', hm'⟩ : ∃ m', n - i = m' + 1 := ⟨n - i - 1, by omega⟩
      rw [hm'] at hrep
      have sA' : SrcS true P q (H' ++ [Ob.cells 0 false (cI [0, 0, 0, 0, 0, 0])]) t := sA.keep fun k hk => List.getElem?_append_left (by omega)
      simp [-List.getD_eq_getElem?_getD, -Int.ofNat_toNat, -getElem?_pos, er128_0, er128_1, er128_2, er128_3, er128_4, er128_5, er128_6, er128_7, er128_8, er128_9, er128_10, er128_11, er128_12, er128_13, er128_14, er128_15, er128_16, er128_17, er128_18, er128_20, er128_21, er128_23, er128_24, er128_25, er128_26, er128_27, er128_28, er128_29, er128_30, er128_31, er128_32, er128_33, er128_34, er128_35, er128_36, er128_37, er128_38, er128_39, er128_40, er128_41, er128_42, er128_43, er128_44, er128_45, er128_47, er128_48, er128_50, er128_51, hlt', hlt]
      refine pc_loopI (fun m2 st => ∃ (j : Nat) (pre t' : List Int) (p10 p28 : AV) (Hj : Heap), j + m2 = 6 ∧ pre.length = j ∧ t = pre ++ t' ∧ SrcS true P q Hj t' ∧ Hj[H'.length]? = some (.cells 0 false (cI (pre ++ List.replicate m2 0))) ∧ (∀ k, k ≠ q → k < H'.length → Hj[k]? = H'[k]?) ∧ H'.length < Hj.length ∧
          st = ([.ptr q 0 0, .nili, .un, .un, .un, .un, .un, .un, .ptr H2.length 0 0, .ptr H'.length 0 0, p10, .int .i64 6, .bool false, .bool false, .un, .un, .un, .un, .un, .un, .bool false, .bool false, .bool false, .bool true, .int .i64 n, .int .i64 i, .bool true, .int .i64 j, p28], Hj)) 6
        ⟨0, [], t, _, _, _, by simp, rfl, rfl, sA', get_at0 _ _, fun k _ hk => List.getElem?_append_left hk, by simp, rfl⟩ ?_
      rintro m2 st2 ⟨j, pre, t', p10, p28, Hj, hj, hpre, ht, sj, hbj, hkj, hlj, rfl⟩
      by_cases hj6 : j < 6
      · have hj6' : (j : Int) < 6 := by omega
        have hjw := wrap1 hj6 (by omega)
        obtain ⟨m3, rfl⟩ : ∃ m3, m2 = m3 + 1 := ⟨m2 - 1, by omega⟩
        simp [-List.getD_eq_getElem?_getD, -Int.ofNat_toNat, -getElem?_pos, er128_0, er128_1, er128_2, er128_3, er128_4, er128_5, er128_6, er128_7, er128_8, er128_9, er128_10, er128_11, er128_12, er128_13, er128_14, er128_15, er128_16, er128_17, er128_18, er128_20, er128_21, er128_23, er128_24, er128_25, er128_26, er128_27, er128_28, er128_29, er128_30, er128_31, er128_32, er128_33, er128_34, er128_35, er128_36, er128_37, er128_38, er128_39, er128_40, er128_41, er128_42, er128_43, er128_44, er128_45, er128_47, er128_48, er128_50, er128_51, hj6', hj6]
        refine w_one g.one sj _ _ ?_ fun e => ?_
        rotate_left
        · subst e
          intro t1 u
          simp [-List.getD_eq_getElem?_getD, -Int.ofNat_toNat, -getElem?_pos, er128_0, er128_1, er128_2, er128_3, er128_4, er128_5, er128_6, er128_7, er128_8, er128_9, er128_10, er128_11, er128_12, er128_13, er128_14, er128_15, er128_16, er128_17, er128_18, er128_20, er128_21, er128_23, er128_24, er128_25, er128_26, er128_27, er128_28, er128_29, er128_30, er128_31, er128_32, er128_33, er128_34, er128_35, er128_36, er128_37, er128_38, er128_39, er128_40, er128_41, er128_42, er128_43, er128_44, er128_45, er128_47, er128_48, er128_50, er128_51]
          refine hp ?_ _ _ _
          have hno : takeP 6 t = none := by simp only [takeP]; rw [if_neg (by rw [ht]; simp; omega)]
          simp only [bindP, oneP, hcuts, hrep, repP, hno, Option.map_none]
        intro x t2 Hk e4 sk fk
        subst e4
        simp only [hid_k]
        have hbk : Hk[H'.length]? = some (.cells 0 false (cI (pre ++ List.replicate (m3 + 1) 0))) := by rw [fk.1 _ (by omega) hlj]; exact hbj
        have hsa : setAt (cI (pre ++ List.replicate (m3 + 1) 0)) j [.int .i64 x] = cI (pre ++ [x] ++ List.replicate m3 0) := by
          rw [setAt_one _ (by rw [cI_len]; simp; omega), ← cI_set, List.set_append_right _ _ (by omega), hpre, Nat.sub_self, List.replicate_succ, List.set_cons_zero]
          simp
        have hcl : j + 1 ≤ (cI (pre ++ List.replicate (m3 + 1) 0)).length := by rw [cI_len]; simp; omega
        have hlk := fk.2
        generalize cI (pre ++ List.replicate (m3 + 1) 0) = c0 at *
        simp [-List.getD_eq_getElem?_getD, -Int.ofNat_toNat, -getElem?_pos, er128_0, er128_1, er128_2, er128_3, er128_4, er128_5, er128_6, er128_7, er128_8, er128_9, er128_10, er128_11, er128_12, er128_13, er128_14, er128_15, er128_16, er128_17, er128_18, er128_20, er128_21, er128_23, er128_24, er128_25, er128_26, er128_27, er128_28, er128_29, er128_30, er128_31, er128_32, er128_33, er128_34, er128_35, er128_36, er128_37, er128_38, er128_39, er128_40, er128_41, er128_42, er128_43, er128_44, er128_45, er128_47, er128_48, er128_50, er128_51, hj6', hj6, hbk, hsa, hcl, hjw]
        refine next_mk m3 (by omega) ⟨j + 1, pre ++ [x], t2, _, _, _, by omega, by simp [hpre], by rw [ht]; simp, sk.keep fun k hk => List.getElem?_set_ne (by omega), by rw [List.getElem?_set_self (by omega)]; simp, fun k hk hkl => by rw [List.getElem?_set_ne (by omega), fk.1 k hk (by omega)]; exact hkj k hk hkl, by simp; omega, rfl⟩
      · have hj6' : ¬ (j : Int) < 6 := by omega
        have hm20 : m2 = 0 := by omega
        subst hm20
        have htk : takeP 6 t = some (pre, t') := by
          simp only [takeP]
          rw [if_pos (by rw [ht]; simp; omega), ht, List.take_append_of_le_length (by omega), List.take_of_length_le (by omega), List.drop_append_of_le_length (by omega), List.drop_of_length_le (by omega)]; rfl
        have hpl : pre.length = 6 := by omega
        have hbx : Hj[H2.length]? = some (.cells 0 false [.int .i64 a, cv]) := by rw [hkj _ (by omega) (by omega)]; exact hbA
        have oJ : Own true H3.length Hj cv 6 acc.length (cI acc.flatten) := Own.keep oA fun b hb hbv => hkj b (by have := (Own.blk oA hbv).1; omega) hb
        obtain ⟨o3, H4, x1, x2, x3, x4, x5⟩ := Own.app1 (bytes := 48) (x := cI pre) oJ (by rw [cI_len]; exact hpl) (ones_cI pre) (by omega) (by omega)
        have hbcv : ∀ b, b < H3.length → blkOf cv ≠ some b := fun b hb e => by have := (Own.blk oA e).1; omega
        have hbx4 : H4[H2.length]? = some (.cells 0 false [.int .i64 a, cv]) := by rw [x3 _ (by omega) (hbcv _ (by omega))]; exact hbx
        simp only [repP, htk] at hrep
        have hbj' : Hj[H'.length]? = some (.cells 0 false (cI pre)) := by rw [hbj]; simp
        have sjk := sj
        have hqj := sj.lt
        have hnx : nextC (fun m st => ∃ (i : Nat) (acc : List (List Int)) (t : List Int) (cv p9 p10 p26 p27 p28 : AV) (H' : Heap), i + m = n ∧ acc.length = i ∧ t.length ≤ t0.length ∧ repP (takeP 6) n t0 = (repP (takeP 6) (n - i) t).map (fun x => (acc ++ x.1, x.2)) ∧ SrcS true P q H' t ∧
            H'[H2.length]? = some (.cells 0 false [.int .i64 a, cv]) ∧ Own true H3.length H' cv 6 acc.length (cI acc.flatten) ∧ Fr q H H' ∧ H3.length ≤ H'.length ∧
            st = ([.ptr q 0 0, .nili, .un, .un, .un, .un, .un, .un, .ptr H2.length 0 0, p9, p10, .int .i64 6, .bool false, .bool false, .un, .un, .un, .un, .un, .un, .bool false, .bool false, .bool false, .bool true, .int .i64 n, .int .i64 i, p26, p27, p28], H')) () m
            ([.ptr q 0 0, .nili, .un, .un, .un, .un, .un, .un, .ptr H2.length 0 0, .ptr H'.length 0 0, p10, .int .i64 6, .bool false, .bool false, .un, .un, .un, .un, .un, .un, .bool false, .bool false, .bool false, .bool true, .int .i64 n, .int .i64 ((i : Int) + 1), .bool true, .int .i64 j, .bool false], H4.set H2.length (.cells 0 false [.int .i64 a, o3])) := by
          refine next_mk (m - 1) (by omega) ⟨i + 1, acc ++ [pre], t', _, _, _, _, _, _, _, by omega, by simp [hacc], by rw [ht] at htl2; simp at htl2; omega, ?_, sj.keep fun k hk => by rw [List.getElem?_set_ne (by omega)]; exact x3 k (by omega) (hbcv k (by omega)), List.getElem?_set_self (by omega), ?_, ?_, by simp; omega, rfl⟩
          · rw [hrep, show n - (i + 1) = m' by omega]
            cases repP (takeP 6) m' t' with
            | none => rfl
            | some y => obtain ⟨as, l''⟩ := y; simp
          · refine Own.keep ?_ fun b hb hbv => List.getElem?_set_ne (by
              rcases x5 b hbv with h | h
              · have := (Own.blk oJ h).1; omega
              · omega)
            simpa [cI_append] using x2
          · refine Fr.setN ⟨fun k hk hkl => ?_, by have := fA.2; omega⟩ (f1.trans f2).2 _
            rw [x3 k (by have := fA.2; omega) (hbcv k (by have := (f1.trans f2).2; omega)), hkj k hk (by have := fA.2; omega)]; exact fA.1 k hk hkl
        obtain ⟨y0, y1, y2, y3, y4, y5, rfl⟩ : ∃ y0 y1 y2 y3 y4 y5, pre = [y0, y1, y2, y3, y4, y5] := by
          match pre, hpl with
          | [y0, y1, y2, y3, y4, y5], _ => exact ⟨y0, y1, y2, y3, y4, y5, rfl⟩
        have cI6 : cI [y0, y1, y2, y3, y4, y5] = [.int .i64 y0, .int .i64 y1, .int .i64 y2, .int .i64 y3, .int .i64 y4, .int .i64 y5] := rfl
        rw [cI6] at hbj' x1
        have oo := Own.one x2
        have oc := Own.cells x2
        simp [-List.getD_eq_getElem?_getD, -Int.ofNat_toNat, -getElem?_pos, er128_0, er128_1, er128_2, er128_3, er128_4, er128_5, er128_6, er128_7, er128_8, er128_9, er128_10, er128_11, er128_12, er128_13, er128_14, er128_15, er128_16, er128_17, er128_18, er128_20, er128_21, er128_23, er128_24, er128_25, er128_26, er128_27, er128_28, er128_29, er128_30, er128_31, er128_32, er128_33, er128_34, er128_35, er128_36, er128_37, er128_38, er128_39, er128_40, er128_41, er128_42, er128_43, er128_44, er128_45, er128_47, er128_48, er128_50, er128_51, hj6', hj6, hbj', hbx, hbx4, x1, oo, oc, setAt, hiw]
        exact hnx
    · have hlt' : ¬ (i : Int) < n := by omega
      have hie : n - i = 0 := by omega
      rw [hie] at hrep
      simp only [repP, Option.map_some, List.append_nil] at hrep
      have hv : viewR H' (.iface (φ 95) (.agg [.int .i64 a, cv])) = some (cvO φ (some (.refusal a acc))) := by
        refine (SeesF.iface (SeesL.agg (SeesL.cons ((seesF_closed rfl).mono (e := 4) (by omega)) (SeesL.cons (((Own.vw oA).seesF (closeds_cI _)).mono (by omega)) ((seesL_nil _).mono (by omega)) (by omega)) (by omega))) _).vr (by omega) |>.trans ?_
        simp [cvO, cvV, rv]
      have hk := hK _ _ _ _ (by simp only [bindP, oneP, hcuts, hrep]) sA hv fA
      simp [-List.getD_eq_getElem?_getD, -Int.ofNat_toNat, -getElem?_pos, er128_0, er128_1, er128_2, er128_3, er128_4, er128_5, er128_6, er128_7, er128_8, er128_9, er128_10, er128_11, er128_12, er128_13, er128_14, er128_15, er128_16, er128_17, er128_18, er128_20, er128_21, er128_23, er128_24, er128_25, er128_26, er128_27, er128_28, er128_29, er128_30, er128_31, er128_32, er128_33, er128_34, er128_35, er128_36, er128_37, er128_38, er128_39, er128_40, er128_41, er128_42, er128_43, er128_44, er128_45, er128_47, er128_48, er128_50, er128_51, hlt', hlt, hbA, Own.one oA, Own.cells oA, Own.part oA, resK, resVs, resV, pack]
      exact hk
  have hc : certP (k :: r) = some (none, r) := by simp only [certP]; rw [if_neg k1, if_neg k2, if_neg k3, if_neg k4, if_neg k5, if_neg k6]
  have hk := hK _ _ .nili H1 hc s1 (viewR_closed rfl) f1
  simp [-List.getD_eq_getElem?_getD, -Int.ofNat_toNat, -getElem?_pos, er128_0, er128_1, er128_2, er128_3, er128_4, er128_5, er128_6, er128_7, er128_8, er128_9, er128_10, er128_11, er128_12, er128_13, er128_14, er128_15, er128_16, er128_17, er128_18, er128_20, er128_21, er128_23, er128_24, er128_25, er128_26, er128_27, er128_28, er128_29, er128_30, er128_31, er128_32, er128_33, er128_34, er128_35, er128_36, er128_37, er128_38, er128_39, er128_40, er128_41, er128_42, er128_43, er128_44, er128_45, er128_47, er128_48, er128_50, er128_51, k1, k2, k3, k4, k5, k6, resK, resVs, resV, pack]
  exact hk
end Go.Ai.G
/- Rows of rows as values; rows told apart. -/
namespace Go.Ai.G
open Go.Ai
set_option maxRecDepth 100000
set_option linter.unusedSimpArgs false
set_option linter.unusedVariables false
variable {A : AProg} {φ : Nat → Nat}
attribute [local simp ↓] getD_z getD_s hid_k hid_o hid_q hid_v PO_nil PO_none PO_grd PD_nil PD_none PD_grd PDO_N PDO_X PDO_call PDO_calli PDO_callv PSX_N PSX_X PSX_call PSX_calli PSX_callv PSX_inv
  PSX_callp PSX_panic PDO_inv PStep_inv thenC_pan blockC_pan loopC_pan endX_ret endX_norm endX_pan PStep_N PStep_X PStep_call PStep_calli PC_skip PC_lab PC_ret PC_exit PC_reg PC_draw
  PC_seq PC_block PC_loop PC_scope PC_cond thenC_norm thenC_ret thenC_exit blockC_norm blockC_ret blockC_exit loopC_norm loopC_ret loopC_exit endR_ret endR_norm
attribute [local simp] gz PDX_free PDX_eq KI_some n_mki n_tas0 n_tasf PStep_callv resK_none resK_t resK_tt KNO_val KNO_new KNO_ite KNO_map KXO_some KXO_ite KVA_t KVA_f KG_skip KG_tt KG_ff KG_tf KG_ft
  KB_true KB_false KNOD_val KNOD_new KNOD_ite n_mv n_pick n_bin n_eqB n_eqN n_eqS n_un n_conv n_fadd n_faddV n_fld1 n_fldN n_idx n_idxA n_idxV n_idxAV n_ext n_lenS n_lenS0 n_lenV
  n_lenT n_lenA n_min n_max n_build n_mkfn n_slc n_slc0 n_slcV n_slcA n_load1 n_loadN n_load1V n_loadNV n_alloc n_box n_bsl n_mksl n_nilcP n_nilcV n_nilcI n_nilcF x_store x_clear0
  x_clear b_add b_sub b_mul b_eql b_neq b_lss b_leq b_gtr b_geq b_and16 unV ntouch gather hide unhide evalOpd applyOuts int_bne int_beq ite_bool ite_int one_bool cells_bool one_int
  cells_int one_str cells_str one_nilp cells_nilp one_ptr cells_ptr one_nils cells_nils one_sl cells_sl one_nilf cells_nilf one_fn cells_fn one_nili cells_nili one_mp cells_mp
  one_nilm cells_nilm one_iface cells_iface one_vs cells_vs one_vp cells_vp cells_agg Nat.testBit setAt_1 setAt_2 closeds_nil closeds_cons closed_bool closed_int closed_str
  closed_nilp closed_nils closed_nilm closed_nilf closed_nili closed_agg closed_tup closed_vs closed_vp closed_iface closed_fn closeds_cI closeds_cE viewA_closed viewR_closed AV.scal
  AV.scal0 fillA repA part_bool part_int part_str part_nilp part_ptr part_nils part_sl part_nilm part_mp part_nilf part_fn part_nili part_iface part_agg part_vs part_vp viewA_sl1
  vaSl_cells wrap_0 wrap_1 wrap_2 wrap_m1 set_last get_last
/-- Rows of rows, as a value. -/
def IsRows (v : AV) (rows : List (List Int)) : Prop := (v = .nils ∧ rows = []) ∨ ∃ l : List AV, v = .vs rows.length 1 l ∧ l.length = rows.length ∧ AV.closeds l = true ∧ ∀ (j : Nat) x zs, l[j]? = some x → rows[j]? = some zs → IsI x zs
theorem IsRows.closed {v : AV} {rows : List (List Int)} (h : IsRows v rows) : v.closed = true := by
  rcases h with ⟨rfl, _⟩ | ⟨l, rfl, _, hc, _⟩
  · rfl
  · exact hc
theorem IsRows.len {v : AV} {rows : List (List Int)} (h : IsRows v rows) (rd : Nat → Option Ob) : nstep .lenS [v] rd = some (.val (.int .i64 rows.length)) := by
  rcases h with ⟨rfl, rfl⟩ | ⟨l, rfl, _⟩ <;> rfl
theorem IsRows.one {v : AV} {rows : List (List Int)} (h : IsRows v rows) : v.one = true := by
  rcases h with ⟨rfl, rfl⟩ | ⟨l, rfl, _⟩ <;> rfl
theorem IsRows.at {v : AV} {rows : List (List Int)} (h : IsRows v rows) {i : Nat} (hi : i < rows.length) : ∃ l x, (∀ (k : IntKind) rd, nstep (.idx 1) [v, .int k (i : Int)] rd = some (.val (.vp l i))) ∧ l[i]? = some x ∧ IsI x rows[i] := by
  rcases h with ⟨rfl, rfl⟩ | ⟨l, rfl, hl, _, hx⟩
  · simp at hi
  · have hil : i < l.length := by omega
    refine ⟨l, l[i], fun k rd => ?_, List.getElem?_eq_getElem hil, hx i _ _ (List.getElem?_eq_getElem hil) (List.getElem?_eq_getElem hi)⟩
    rw [n_idxV, if_pos ⟨rfl, by omega, by omega, by omega⟩]; simp
end Go.Ai.G
/- A memory in which all that lay lies still, if frozen. -/
namespace Go.Ai
set_option linter.unusedVariables false
set_option linter.unusedSimpArgs false
def Gr (H K : Heap) : Prop := ∀ (b g : Nat) (ro : Bool) (c : List AV), H[b]? = some (.cells g ro c) → ∃ ro', K[b]? = some (.cells g ro' c)
variable {H K L : Heap}
theorem Gr.refl (H : Heap) : Gr H H := fun b g ro c h => ⟨ro, h⟩
theorem Gr.trans (h : Gr H K) (k : Gr K L) : Gr H L := fun b g ro c e => by
  obtain ⟨r1, e1⟩ := h b g ro c e
  exact k b g r1 c e1
theorem Gr.keep (h : Gr H K) (k : ∀ b, b < K.length → L[b]? = K[b]?) : Gr H L := fun b g ro c e => by
  obtain ⟨r1, e1⟩ := h b g ro c e
  exact ⟨r1, (k b (lt_of_get e1)).trans e1⟩
theorem Gr.app (h : Gr H K) (J : Heap) : Gr H (K ++ J) := h.keep fun b hb => List.getElem?_append_left hb
theorem frz_some : ∀ (bs : List Nat) {H : Heap} {b g : Nat} {ro : Bool} {c : List AV}, H[b]? = some (.cells g ro c) → ∃ ro', (frzH bs H)[b]? = some (.cells g ro' c)
  | [], H, b, g, ro, c, h => ⟨ro, h⟩
  | d :: bs, H, b, g, ro, c, h => by
    simp only [frzH]
    split
    · rename_i g' c' hd
      by_cases e : d = b
      · subst e
        rw [h] at hd; cases hd
        exact frz_some bs (List.getElem?_set_self (lt_of_get h))
      · exact frz_some bs (by rw [List.getElem?_set_ne e]; exact h)
    · exact frz_some bs h
theorem frz_len : ∀ (bs : List Nat) (H : Heap), (frzH bs H).length = H.length
  | [], H => rfl
  | d :: bs, H => by
    simp only [frzH]
    split
    · rw [frz_len bs]; simp
    · exact frz_len bs H
theorem Gr.frz (h : Gr H K) (bs : List Nat) : Gr H (frzH bs K) := fun b g ro c e => by
  obtain ⟨r1, e1⟩ := h b g ro c e
  exact frz_some bs e1
theorem Vw.gr {nl : Bool} {v : AV} {sz n : Nat} {c : List AV} (h : Vw nl H v sz n c) (g : Gr H K) : Vw nl K v sz n c := by
  rcases h with h | ⟨h0, b, gg, cl, ex, ro, rfl, h1, h2⟩
  · exact .inl h
  · obtain ⟨ro', h3⟩ := g b gg ro c h2
    exact .inr ⟨h0, b, gg, cl, ex, ro', rfl, h1, h3⟩
theorem RwsG.gr {il : Bool} {sz : Nat} {rs : List AV} {xs : List (Nat × List AV)} (h : RwsG il sz H rs xs) (g : Gr H K) : RwsG il sz K rs xs :=
  ⟨h.1, fun j r x h1 h2 => ⟨(h.2 j r x h1 h2).1.gr g, (h.2 j r x h1 h2).2⟩⟩
theorem own_frz {nl : Bool} {P : Nat} {v : AV} {sz n : Nat} {c : List AV} {bs : List Nat} (h : Own nl P K v sz n c) (hb : ∀ b ∈ bs, b < P) : Own nl P (frzH bs K) v sz n c :=
  h.keep fun b _ hbv => frz_out bs fun hm => by
    have := (h.blk hbv).1
    have := hb b hm
    omega
/-- A part of a row of rows. -/
theorem sees_part {il ex ro : Bool} {sz b g o n cl : Nat} {c : List AV} {xs : List (Nat × List AV)} (hb : H[b]? = some (.cells g ro c)) (hl : o + n ≤ c.length) (hr : RwsG il sz H ((c.drop o).take n) xs) :
    SeesF 4 H (.sl b g o n 1 cl ex) (.vs n 1 (xs.map fun x => rv il x.1 sz x.2)) (if n = 0 then [] else b :: ((c.drop o).take n).flatMap fun r => (blkOf r).toList) := by
  have e := rws_seesL hr
  by_cases h0 : n = 0
  · subst h0
    have hx : xs = [] := List.length_eq_zero_iff.1 (by have := hr.1; simpa using this.symm)
    subst hx
    rw [if_pos rfl]
    intro k hk
    obtain ⟨m, rfl⟩ : ∃ m, k = m + 1 := ⟨k - 1, by omega⟩
    exact ⟨reachV_sl0 _ _ _ _ _ _ _, fun cs _ => viewV_sl0 _ _ _ _ _ _ _⟩
  · rw [if_neg h0]
    intro k hk
    obtain ⟨m, rfl⟩ : ∃ m, k = m + 4 := ⟨k - 4, by omega⟩
    obtain ⟨e1, e2⟩ := e (m + 2) (by omega)
    have hn1 : n * 1 = n := Nat.mul_one n
    refine ⟨?_, fun cs hm => ?_⟩
    · rw [show m + 4 = (m + 3) + 1 from rfl]
      simp only [reachV, AV.closed, Bool.false_eq_true, if_false, reachOne, if_neg h0, hb]
      rw [hn1, e1]
    · have hbf := frz_in cs hb (hm b (by simp))
      have hvl := e2 cs fun b' hb' => hm b' (List.mem_cons_of_mem _ hb')
      rw [show m + 4 = (m + 3) + 1 from rfl]
      conv => lhs; simp only [viewV]
      simp only [AV.closed, Bool.false_eq_true, if_false, viewOne, if_neg h0, hbf]
      rw [if_pos ⟨trivial, by omega⟩, hn1, hvl]
      rfl
/-- A row of rows of one's own, seen wherever it lies still. -/
theorem OwnG.all {nl il : Bool} {sz P : Nat} {v : AV} {xs : List (Nat × List AV)} (h : OwnG nl il sz P H v xs) : ∃ bs : List Nat, (∀ b ∈ bs, b < H.length ∧ P ≤ b) ∧ ∀ K, Gr H K → SeesF 4 K v (rv nl xs.length 1 (xs.map fun x => rv il x.1 sz x.2)) bs := by
  obtain ⟨rs, h1, h2, h3⟩ := h
  rcases h1 with ⟨h0, hc, hv⟩ | ⟨h0, b, g, ex, rfl, hP, hl, hb⟩
  · have hx : xs = [] := List.length_eq_zero_iff.1 h0
    subst hx
    cases nl
    · obtain ⟨b, g, o, rfl⟩ := hv
      exact ⟨[], fun b hb => by simp at hb, fun K _ k hk => by
        obtain ⟨m, rfl⟩ : ∃ m, k = m + 1 := ⟨k - 1, by omega⟩
        exact ⟨reachV_sl0 _ _ _ _ _ _ _, fun cs _ => by rw [viewV_sl0]; simp [rv]⟩⟩
    · have : v = .nils := hv
      subst this
      exact ⟨[], fun b hb => by simp at hb, fun K _ => (seesF_closed rfl).mono (by omega)⟩
  · have hrl : rs.length = xs.length := by simpa using hl
    have htk : (rs.drop 0).take xs.length = rs := by rw [List.drop_zero, ← hrl, List.take_length]
    refine ⟨if xs.length = 0 then [] else b :: rs.flatMap fun r => (blkOf r).toList, fun d hd => ?_, fun K gK => ?_⟩
    · rw [if_neg (by omega)] at hd
      rcases List.mem_cons.1 hd with rfl | hd
      · exact ⟨lt_of_get hb, hP⟩
      · obtain ⟨r, hr, hbr⟩ := List.mem_flatMap.1 hd
        have := h3 r hr d (by simpa using hbr)
        exact ⟨this.2.1, this.1⟩
    · obtain ⟨ro', hK⟩ := gK _ _ _ _ hb
      have := sees_part (o := 0) (n := xs.length) (cl := xs.length) (ex := ex) (xs := xs) hK (by omega) (by rw [htk]; exact h2.gr gK)
      rw [htk] at this
      have e : rv nl xs.length 1 (xs.map fun x => rv il x.1 sz x.2) = .vs xs.length 1 (xs.map fun x => rv il x.1 sz x.2) := by
        simp [rv, show ¬ xs.length = 0 by omega]
      rw [e]
      exact this
theorem OwnR.all {nl : Bool} {P : Nat} {v : AV} {xs : List (List Int)} (h : OwnR nl P H v xs) : ∃ bs : List Nat, (∀ b ∈ bs, b < H.length ∧ P ≤ b) ∧ ∀ K, Gr H K → SeesF 4 K v (rv nl xs.length 1 (xs.map vI)) bs := by
  obtain ⟨bs, h1, h2⟩ := OwnG.all h
  rw [eI_rv, List.length_map] at h2
  exact ⟨bs, h1, h2⟩
end Go.Ai
/- Rows of rows beside another slice that grows. -/
namespace Go.Ai
set_option linter.unusedVariables false
set_option linter.unusedSimpArgs false
/-- A row of rows that is one's own, none of it in block E. -/
def OwnX (E : Option Nat) (nl il : Bool) (sz P : Nat) (H : Heap) (v : AV) (xs : List (Nat × List AV)) : Prop :=
  ∃ rs, Own nl P H v 1 xs.length rs ∧ RwsG il sz H rs xs ∧ (∀ r ∈ rs, ∀ b, blkOf r = some b → P ≤ b ∧ b < H.length ∧ blkOf v ≠ some b ∧ E ≠ some b) ∧ ∀ b, blkOf v = some b → E ≠ some b
variable {E E' : Option Nat} {nl il : Bool} {sz P : Nat} {H H' : Heap} {v : AV} {xs : List (Nat × List AV)}
theorem OwnX.g (h : OwnX E nl il sz P H v xs) : OwnG nl il sz P H v xs := by
  obtain ⟨rs, h1, h2, h3, h4⟩ := h
  exact ⟨rs, h1, h2, fun r hr b hb => ⟨(h3 r hr b hb).1, (h3 r hr b hb).2.1, (h3 r hr b hb).2.2.1⟩⟩
theorem ownX_nil (E : Option Nat) (il : Bool) (sz P : Nat) (H : Heap) : OwnX E true il sz P H .nils [] := ⟨[], own_nil P H 1, rwsG_nil _ _ H, fun r hr => by simp at hr, fun b hb => by cases hb⟩
theorem OwnX.keep (h : OwnX E nl il sz P H v xs) (hk : ∀ b, P ≤ b → b < H.length → E ≠ some b → H'[b]? = H[b]?) (hl : H.length ≤ H'.length) (hE : ∀ b, E' = some b → E = some b ∨ H.length ≤ b) : OwnX E' nl il sz P H' v xs := by
  obtain ⟨rs, h1, h2, h3, h4⟩ := h
  have hn : ∀ b, b < H.length → E ≠ some b → E' ≠ some b := fun b hb hE' e => by
    rcases hE b e with h | h
    · exact hE' h
    · omega
  refine ⟨rs, h1.keep fun b hb hbv => hk b (h1.blk hbv).1 hb (h4 b hbv), h2.keep fun r hr b hb => hk b (h3 r hr b hb).1 (h3 r hr b hb).2.1 (h3 r hr b hb).2.2.2, fun r hr b hb => ?_, fun b hb => hn b (h1.blk hb).2 (h4 b hb)⟩
  obtain ⟨a1, a2, a3, a4⟩ := h3 r hr b hb
  exact ⟨a1, by omega, a3, hn b a2 a4⟩
theorem OwnX.blk (h : OwnX E nl il sz P H v xs) {b : Nat} (hb : blkOf v = some b) : P ≤ b ∧ b < H.length ∧ E ≠ some b := by
  obtain ⟨rs, h1, h2, h3, h4⟩ := h
  exact ⟨(h1.blk hb).1, (h1.blk hb).2, h4 b hb⟩
theorem snoc2 {α β : Type} {R : α → β → Prop} {xs : List α} {ys : List β} (h : ∀ (j : Nat) x y, xs[j]? = some x → ys[j]? = some y → R x y) (hl : xs.length = ys.length) {a : α} {b : β} (hab : R a b) : ∀ (j : Nat) x y, (xs ++ [a])[j]? = some x → (ys ++ [b])[j]? = some y → R x y := fun j x y hx hy => by
  by_cases e : j < xs.length
  · rw [List.getElem?_append_left e] at hx
    rw [List.getElem?_append_left (by omega)] at hy
    exact h j x y hx hy
  · rw [List.getElem?_append_right (by omega)] at hx
    rw [List.getElem?_append_right (by omega), ← hl] at hy
    cases hk : j - xs.length with
    | zero => rw [hk] at hx hy; simp at hx hy; subst hx hy; exact hab
    | succ k => rw [hk] at hx; simp at hx
theorem OwnX.app1 {r : AV} {x : Nat × List AV} (h : OwnX E nl il sz P H v xs) (hr : Vw il H r sz x.1 x.2) (hc : AV.closeds x.2 = true) (hb : ∀ b, blkOf r = some b → P ≤ b ∧ b < H.length ∧ blkOf v ≠ some b ∧ E ≠ some b) (hP : P ≤ H.length) (hE : ∀ b, E = some b → b < H.length) (hn : xs.length < 1000000000000) :
    ∃ v' H', xstep (.app 1 24) [v, .sl H.length 0 0 1 1 1 true] (H ++ [.cells 0 false [r]]) = some (v', H') ∧ OwnX E nl il sz P H' v' (xs ++ [x]) ∧ (∀ b, b < H.length → blkOf v ≠ some b → H'[b]? = H[b]?) ∧ H.length + 1 ≤ H'.length ∧ v'.one = true ∧ v'.cells = [v'] := by
  obtain ⟨rs, h1, h2, h3, h4⟩ := h
  obtain ⟨v', H', e1, e2, e3, e4, e5⟩ := Own.app1 (bytes := 24) (x := [r]) h1 rfl (by simp [hr.one]) hP (by omega)
  have k : ∀ s, (s ∈ rs ∨ s = r) → ∀ b, blkOf s = some b → P ≤ b ∧ b < H.length ∧ blkOf v ≠ some b ∧ E ≠ some b := by
    rintro s (hs | rfl)
    · exact h3 s hs
    · exact hb
  refine ⟨v', H', e1, ⟨rs ++ [r], by simpa using e2, ?_, ?_, fun b hbv e => ?_⟩, e3, e4, e2.one, e2.cells⟩
  · refine (h2.snoc hr hc).keep fun s hs b hbs => ?_
    have := k s (by simpa using hs) b hbs
    exact e3 b this.2.1 this.2.2.1
  · intro s hs b hbs
    obtain ⟨k1, k2, k3, k4⟩ := k s (by simpa using hs) b hbs
    refine ⟨k1, by omega, fun e => ?_, k4⟩
    rcases e5 b e with h | h
    · exact k3 h
    · omega
  · rcases e5 b hbv with h | h
    · exact h4 b h e
    · have := hE b e
      omega
end Go.Ai
