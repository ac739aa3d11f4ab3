/- A part of what the law leans on: the abstract machine, the contracts, the rows. -/
import Derived.Test.YtmekjhnlmoidpaaK12
import Derived.Test.YtmekjhnlmoidpaaK6
import Derived.Laws.AppendOwn
/- graph.Has and graph.Near as functions that are given from outside; what a contract says in the model's words. -/
namespace Go.Ai
open Go.RowKit Go.Ai.G
set_option linter.unusedVariables false
set_option linter.unusedSimpArgs false
/-- A contract over values, in the model's words. -/
theorem PVal.calls {P : Program} {A : AProg} (hext : ExtSound P A.ext) (hf : (A.fns.all fun p => chkFn P p.1 p.2) = true) {f : Nat} {vs : List AV} {r : AV} (h : PVal A f vs r) {W : World} {us : List Value} (hv : VRs (muOf W) vs us) :
    Calls P f us.toArray W fun e W' => (∃ u ν, e = .returned u ∧ VR ν r u) ∧ Below W.heap.size W W' := by
  obtain ⟨k, v, H1, h1, h2⟩ := h
  refine ((prog_sound hext hf k f _ _ _ h1).2.2 W.heap.size (muOf W) W us (HR.start W) hv).mono ?_
  rintro e w' ⟨u, ν, rfl, hu, hH, hx⟩
  obtain ⟨ρ, H2, k1, k2, k3, k4⟩ := viewR_sound hH hu h2
  exact ⟨⟨u, ρ, rfl, k3⟩, below_start hx⟩
/-- The edges of a row that is a value. -/
def exE : AV → Option (List Ed)
  | .nils => some []
  | .vs n 2 c => decE n c
  | _ => none
theorem exE_is {v : AV} {es : List Ed} (h : exE v = some es) : IsE v es := by
  unfold exE at h
  split at h
  · cases h; exact isE_nil
  · obtain ⟨h1, h2⟩ := decE_spec _ _ _ h
    subst h1; subst h2
    exact isE_v es
  · cases h
theorem exE_of {v : AV} {es : List Ed} (h : IsE v es) : exE v = some es := by
  obtain ⟨h1, h2, ⟨rfl, h3⟩ | rfl⟩ := h
  · have : es = [] := List.length_eq_zero_iff.1 h3
    subst this; rfl
  · exact decE_cells es
/-- A slice of edges in the model's memory. -/
def CE (W : World) (s : Value) (es : List Ed) : Prop := (∃ a c, s = .slice a 0 c ∧ es = []) ∨ ∃ b off cap, s = .slice (some ⟨b, off, none⟩) es.length cap ∧ es.length ≤ cap ∧ b < W.heap.size ∧
  ∀ j (h : j < es.length), W.cell? ⟨b, off + j * 2, none⟩ = some (.int .i64 es[j].1) ∧ W.cell? ⟨b, off + j * 2 + 1, none⟩ = some (.int .i64 es[j].2)
theorem CE.below {n : Nat} {W W' : World} {s : Value} {es : List Ed} (h : CE W s es) (hn : W.heap.size ≤ n) (hb : Below n W W') : CE W' s es := by
  rcases h with ⟨a, c, rfl, rfl⟩ | ⟨b, off, cap, rfl, h1, h2, h3⟩
  · exact .inl ⟨a, c, rfl, rfl⟩
  · refine .inr ⟨b, off, cap, rfl, h1, Nat.lt_of_lt_of_le h2 hb.size, fun j h => ?_⟩
    rw [hb.cell (p := ⟨b, off + j * 2, none⟩) (by show b < n; omega), hb.cell (p := ⟨b, off + j * 2 + 1, none⟩) (by show b < n; omega)]
    exact h3 j h
theorem CE.sl {W : World} {s : Value} {es : List Ed} (h : CE W s es) : ∃ a n c, s = .slice a n c := by
  rcases h with ⟨a, c, rfl, _⟩ | ⟨b, off, cap, rfl, _⟩
  · exact ⟨_, _, _, rfl⟩
  · exact ⟨_, _, _, rfl⟩
theorem ce_of {W : World} {μ : Mu} {v : AV} {es : List Ed} {u : Value} (him : ∀ k o u, μ.im k o = some u → k < W.heap.size ∧ W.cell? ⟨k, o, none⟩ = some u) (h : IsE v es) (hv : VR μ v u) : CE W u es := by
  obtain ⟨h1, h2, ⟨rfl, h3⟩ | rfl⟩ := h
  · have : es = [] := List.length_eq_zero_iff.1 h3
    subst this; cases hv; exact .inl ⟨_, _, rfl, rfl⟩
  · obtain ⟨k, off, p, c, ys, rfl, hn, hl, hp, hxs, hm, _⟩ := hv.vs_inv
    by_cases h0 : es = []
    · subst h0; exact .inl ⟨_, _, rfl, rfl⟩
    · have hpos : 0 < es.length := List.length_pos_iff.2 h0
      have hp := hp (by rw [cellsE_length]; omega)
      subst hp
      have key : ∀ (i : Nat) x, (cellsE es)[i]? = some (.int .i64 x) → μ.im k (off + i) = some (.int .i64 x) := by
        intro i x hx
        have hi : i < ys.length := by rw [← hxs.1]; exact (List.getElem?_eq_some_iff.1 hx).1
        have hy := List.getElem?_eq_getElem hi
        have hv := hxs.2 i _ _ hx hy
        have e : ys[i] = .int .i64 x := by generalize ys[i] = y at hv; cases hv; rfl
        rw [e] at hy
        exact hm i _ hy
      refine .inr ⟨k, off, c, rfl, hn, ?_, fun j hj => ?_⟩
      · exact (him _ _ _ (key 0 _ (cE_get es 0 hpos).1)).1
      · obtain ⟨c0, c1⟩ := cE_get es j hj
        exact ⟨(him _ _ _ (key _ _ c0)).2, by have := (him _ _ _ (key _ _ c1)).2; rwa [← Nat.add_assoc] at this⟩
/-- What a value without objects stands for, it stands for in every later world. -/
theorem vr_later {W W' : World} {μ : Mu} {v : AV} {u : Value} (him : ∀ k o u, μ.im k o = some u → k < W.heap.size ∧ W.cell? ⟨k, o, none⟩ = some u) (hc : v.closed = true) (hv : VR μ v u) (hb : Below W.heap.size W W') : VR (muOf W') v u :=
  hv.shut (fun k o u e => by
    obtain ⟨h1, h2⟩ := him k o u e
    exact (hb.cell (p := ⟨k, o, none⟩) h1).trans h2) hc
/-- The neighbours that graph.Near tells. -/
def nearI (n : Int) (es : List Ed) (a : Int) : List Int := if rightE n es then nbs a es else []
def hasExt (args : List AV) (H : Heap) : Option (Out AV) :=
  match args, H with
  | [.agg [.int .i64 n, v], .int .i64 a, .int .i64 b], [] => (match exE v with
    | some es => some (.ok (.bool ((nearI n es a).contains b)) [])
    | none => none)
  | _, _ => none
def nearV (ys : List Int) : AV := if ys = [] then .nils else .sl 0 0 0 ys.length 1 ys.length false
def nearH (ys : List Int) : Heap := if ys = [] then [] else [.cells 0 false (cI ys)]
def nearExt (args : List AV) (H : Heap) : Option (Out AV) :=
  match args, H with
  | [.agg [.int .i64 n, v], .int .i64 a], [] => (match exE v with
    | some es => some (.ok (nearV (nearI n es a)) (nearH (nearI n es a)))
    | none => none)
  | _, _ => none
/-- What Near hands back, as it lies. -/
def NearR (w w' : World) (e : TypeId) (u : Value) (ys : List Int) : Prop := w'.ownsRow w.heap.size e 1 u ys.length (ys.map (Value.int .i64)) ∧ (u = .slice none 0 0 ↔ ys = []) ∧ Below w.heap.size w w'
theorem has_out {B : Nat} {μ : Mu} {w w' : World} {b : Bool} (hH : HR B μ [] w) (hb : Below w.heap.size w w') : OutR B μ [] w (.ok (.bool b) []) (.returned (.bool b)) w' := by
  refine ⟨_, μ, rfl, .bool _, ?_, ?_⟩
  · exact ⟨fun b o h => by simp at h, fun b b' o o' a a' h => by simp at h, fun b o g a h => by simp at h, hH.fresh, Nat.le_trans hH.base hb.size, fun k o u h => by
      obtain ⟨h1, h2⟩ := hH.im k o u h
      exact ⟨Nat.lt_of_lt_of_le h1 hb.size, (hb.cell (p := ⟨k, o, none⟩) h1).trans h2⟩, fun b o a k j u h => by simp at h⟩
  · exact ⟨Mu.le_refl _, Nat.le_refl _, fun b o h => by simp at h, fun b o a h => by simp at h, fun k hk _ => hb.block k hk, hb.size, hb.os, hb.tape, hb.output, fun h => Bool.noConfusion (show false = true from h), fun k o u h => .inl h⟩
theorem near_out {B : Nat} {μ : Mu} {w w' : World} {e : TypeId} {u : Value} {ys : List Int} (hH : HR B μ [] w) (hr : NearR w w' e u ys) : OutR B μ [] w (.ok (nearV ys) (nearH ys)) (.returned u) w' := by
  obtain ⟨⟨_, hr⟩, hn, hb⟩ := hr
  by_cases h0 : ys = []
  · have hu := hn.2 h0
    subst h0; subst hu
    obtain ⟨_, ν, _, _, h1, h2⟩ := has_out (b := true) hH hb
    exact ⟨_, ν, rfl, .nils, h1, h2⟩
  · have hpos : 0 < ys.length := List.length_pos_iff.2 h0
    rcases hr with ⟨rfl, h⟩ | ⟨g, cap, cur, rfl, hg, hblk, hcap, _, hsz, hcur⟩
    · omega
    · have hgl : g < w'.heap.size := (Array.getElem?_eq_some_iff.1 hblk).1
      let ν : Mu := μ.set 0 0 ⟨g, 0, cap⟩
      have hs : ν 0 0 = some ⟨g, 0, cap⟩ := Mu.set_same _ _ _ _
      have hle : μ.le ν := Mu.le_set _ (hH.fresh _ _ (Nat.le_refl _))
      have hcell : ∀ i, w'.cell? ⟨g, i, none⟩ = cur[i]? := fun i => by simp [World.cell?, hblk]
      simp only [OutR, nearV, nearH, if_neg h0]
      have hcurl : ∀ (i : Nat) x, (cI ys)[i]? = some x → ∃ u, w'.cell? ⟨g, 0 + i, none⟩ = some u ∧ VR ν x u := by
        intro i x hx
        simp only [cI, List.getElem?_map, Option.map_eq_some_iff] at hx
        obtain ⟨z, hz, rfl⟩ := hx
        obtain ⟨hi, rfl⟩ := List.getElem?_eq_some_iff.1 hz
        refine ⟨.int .i64 ys[i], ?_, .int _ _⟩
        rw [Nat.zero_add, hcell, ← Array.getElem?_toList]
        have e1 : (cur.toList.take (ys.length * 1))[i]? = (ys.map (Value.int .i64))[i]? := by rw [hcur]
        rw [List.getElem?_take, if_pos (by omega)] at e1
        rw [e1]; simp [hi]
      refine ⟨_, ν, rfl, .sl (Nat.le_refl _) hcap (fun h => by cases h) (fun _ => ⟨_, hs, rfl, fun _ => by simp⟩), ?_, ?_⟩
      · refine ⟨?_, ?_, ?_, ?_, Nat.le_trans hH.base hb.size, ?_, ?_⟩
        · intro b o hbo hd
          match b, hbo with
          | 0, hbo =>
            simp at hbo; subst hbo
            refine ⟨_, hs, hgl, by simp [cI]; exact hcap, hcurl, fun h => (by cases h), fun _ => ⟨Nat.le_trans hH.base hg, fun i hi => ?_⟩⟩
            have hi' : i < cur.size := by rw [hsz]; simp at hi; omega
            refine ⟨⟨_, by rw [Nat.zero_add, hcell]; exact Array.getElem?_eq_getElem hi'⟩, by simp [World.frozen?, hblk]⟩
          | b + 1, hbo => simp at hbo
        · intro b b' o o' a a' h1 h2 hne
          match b, b', h1, h2 with
          | 0, 0, _, _ => exact absurd rfl hne
          | b + 1, _, h1, _ => simp at h1
          | 0, b' + 1, _, h2 => simp at h2
        · intro b o g' a h1 hd h2
          match b, h1 with
          | 0, h1 =>
            simp at h1; subst h1
            by_cases hg0 : g' = 0
            · subst hg0; exact Nat.le_refl _
            · rw [show ν 0 g' = μ 0 g' from Mu.set_other _ _ (fun h => hg0 h.2)] at h2
              rw [hH.fresh _ _ (Nat.zero_le _)] at h2; cases h2
          | b + 1, h1 => simp at h1
        · intro b g' hl
          rw [show ν b g' = μ b g' from Mu.set_other _ _ (fun h => by simp at hl; omega)]
          exact hH.fresh _ _ (Nat.zero_le _)
        · intro k o u h
          obtain ⟨h1, h2⟩ := hH.im k o u h
          exact ⟨Nat.lt_of_lt_of_le h1 hb.size, (hb.cell (p := ⟨k, o, none⟩) h1).trans h2⟩
        · intro b o a k j u h1 hrw h2 h3
          have := (hH.im k j u h3).1
          match b, h1 with
          | 0, h1 =>
            simp at h1; subst h1
            have h2' : ν 0 0 = some a := h2
            rw [hs] at h2'; cases h2'
            show g ≠ k; omega
          | b + 1, h1 => simp at h1
      · refine ⟨hle, by simp, fun b o h => by simp at h, ?_, fun k hk _ => hb.block k hk, hb.size, hb.os, hb.tape, hb.output, fun h => Bool.noConfusion (show false = true from h), fun k o u h => .inl h⟩
        intro b o a h1 hd h2
        match b, h1 with
        | 0, h1 =>
          simp at h1; subst h1
          have h2' : ν 0 0 = some a := h2
          rw [hs] at h2'; cases h2'
          exact .inl hg
        | b + 1, h1 => simp at h1
/-- What Near's answer comes to, seen as a value. -/
theorem near_view (ys : List Int) : viewR (nearH ys) (nearV ys) = some (rI ys) := by
  refine OwnI.view (P := 0) ?_
  by_cases h0 : ys = []
  · subst h0; exact own_nil 0 _ 1
  · refine .inr ⟨List.length_pos_iff.2 h0, 0, 0, false, by simp [nearV, h0], Nat.le_refl _, by simp [cI], by simp [nearH, h0]⟩
theorem pval_near {A : AProg} {f : Nat} (h : A.ext f = some nearExt) (n a : Int) (v : AV) (es : List Ed) (hv : IsE v es) : PVal A f [gV n v, .int .i64 a] (rI (nearI n es a)) :=
  ⟨1, _, _, by simp only [callK, h, nearExt, exE_of hv], near_view _⟩
theorem pval_hasx {A : AProg} {f : Nat} (h : A.ext f = some hasExt) (n a b : Int) (v : AV) (es : List Ed) (hv : IsE v es) : PVal A f [gV n v, .int .i64 a, .int .i64 b] (.bool ((nearI n es a).contains b)) :=
  ⟨1, _, [], by simp only [callK, h, hasExt, exE_of hv], viewR_closed rfl⟩
end Go.Ai
