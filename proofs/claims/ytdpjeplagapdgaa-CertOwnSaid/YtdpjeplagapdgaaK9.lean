/- A part of what the law leans on: the abstract machine, the contracts, the rows. -/
import Derived.Test.YtdpjeplagapdgaaK8
import Derived.Test.YtdpjeplagapdgaaK6
import Derived.Laws.AppendOwn
import Derived.Test.YtdpjeplagapdgaaK4
/- graph.Has and graph.Near as functions that are given from outside; what a contract says in the model's words. -/
namespace Go.Ai
open Go.RowKit Go.Ai.G
set_option linter.unusedVariables false
set_option linter.unusedSimpArgs false
/-- A contract over values, in the model's words. -/
theorem PVal.calls {P : Program} {A : AProg} (hext : ExtSound P A.ext) (hf : (A.fns.all fun p => chkFn P p.1 p.2) = true) {f : Nat} {vs : List AV} {r : AV} (h : PVal A f vs r) {W : World} {us : List Value} (hv : VRs (muOf W) vs us) :
    Calls P f us.toArray W fun e W' => (∃ u ν, e = .returned u ∧ VR ν r u) ∧ Below W.heap.size W W' := by
  obtain ⟨k, v, H1, h1, h2⟩ := h
  refine ((prog_sound hext hf k f _ _ _ h1).2.2 W.heap.size (muOf W) W us (HR.start W) hv).mono ?_
  rintro e w' ⟨u, ν, rfl, hu, hH, hx⟩
  obtain ⟨ρ, H2, k1, k2, k3, k4⟩ := viewR_sound hH hu h2
  exact ⟨⟨u, ρ, rfl, k3⟩, below_start hx⟩
/-- The edges of a row that is a value. -/
def exE : AV → Option (List Ed)
  | .nils => some []
  | .vs n 2 c => decE n c
  | _ => none
theorem exE_is {v : AV} {es : List Ed} (h : exE v = some es) : IsE v es := by
  unfold exE at h
  split at h
  · cases h; exact isE_nil
  · obtain ⟨h1, h2⟩ := decE_spec _ _ _ h
    subst h1; subst h2
    exact isE_v es
  · cases h
theorem exE_of {v : AV} {es : List Ed} (h : IsE v es) : exE v = some es := by
  obtain ⟨h1, h2, ⟨rfl, h3⟩ | rfl⟩ := h
  · have : es = [] := List.length_eq_zero_iff.1 h3
    subst this; rfl
  · exact decE_cells es
/-- A slice of edges in the model's memory. -/
def CE (W : World) (s : Value) (es : List Ed) : Prop := (∃ a c, s = .slice a 0 c ∧ es = []) ∨ ∃ b off cap, s = .slice (some ⟨b, off, none⟩) es.length cap ∧ es.length ≤ cap ∧ b < W.heap.size ∧
  ∀ j (h : j < es.length), W.cell? ⟨b, off + j * 2, none⟩ = some (.int .i64 es[j].1) ∧ W.cell? ⟨b, off + j * 2 + 1, none⟩ = some (.int .i64 es[j].2)
theorem CE.below {n : Nat} {W W' : World} {s : Value} {es : List Ed} (h : CE W s es) (hn : W.heap.size ≤ n) (hb : Below n W W') : CE W' s es := by
  rcases h with ⟨a, c, rfl, rfl⟩ | ⟨b, off, cap, rfl, h1, h2, h3⟩
  · exact .inl ⟨a, c, rfl, rfl⟩
  · refine .inr ⟨b, off, cap, rfl, h1, Nat.lt_of_lt_of_le h2 hb.size, fun j h => ?_⟩
    rw [hb.cell (p := ⟨b, off + j * 2, none⟩) (by show b < n; omega), hb.cell (p := ⟨b, off + j * 2 + 1, none⟩) (by show b < n; omega)]
    exact h3 j h
theorem CE.sl {W : World} {s : Value} {es : List Ed} (h : CE W s es) : ∃ a n c, s = .slice a n c := by
  rcases h with ⟨a, c, rfl, _⟩ | ⟨b, off, cap, rfl, _⟩
  · exact ⟨_, _, _, rfl⟩
  · exact ⟨_, _, _, rfl⟩
theorem ce_of {W : World} {μ : Mu} {v : AV} {es : List Ed} {u : Value} (him : ∀ k o u, μ.im k o = some u → k < W.heap.size ∧ W.cell? ⟨k, o, none⟩ = some u) (h : IsE v es) (hv : VR μ v u) : CE W u es := by
  obtain ⟨h1, h2, ⟨rfl, h3⟩ | rfl⟩ := h
  · have : es = [] := List.length_eq_zero_iff.1 h3
    subst this; cases hv; exact .inl ⟨_, _, rfl, rfl⟩
  · obtain ⟨k, off, p, c, ys, rfl, hn, hl, hp, hxs, hm, _⟩ := hv.vs_inv
    by_cases h0 : es = []
    · subst h0; exact .inl ⟨_, _, rfl, rfl⟩
    · have hpos : 0 < es.length := List.length_pos_iff.2 h0
      have hp := hp (by rw [cellsE_length]; omega)
      subst hp
      have key : ∀ (i : Nat) x, (cellsE es)[i]? = some (.int .i64 x) → μ.im k (off + i) = some (.int .i64 x) := by
        intro i x hx
        have hi : i < ys.length := by rw [← hxs.1]; exact (List.getElem?_eq_some_iff.1 hx).1
        have hy := List.getElem?_eq_getElem hi
        have hv := hxs.2 i _ _ hx hy
        have e : ys[i] = .int .i64 x := by generalize ys[i] = y at hv; cases hv; rfl
        rw [e] at hy
        exact hm i _ hy
      refine .inr ⟨k, off, c, rfl, hn, ?_, fun j hj => ?_⟩
      · exact (him _ _ _ (key 0 _ (cE_get es 0 hpos).1)).1
      · obtain ⟨c0, c1⟩ := cE_get es j hj
        exact ⟨(him _ _ _ (key _ _ c0)).2, by have := (him _ _ _ (key _ _ c1)).2; rwa [← Nat.add_assoc] at this⟩
/-- What a value without objects stands for, it stands for in every later world. -/
theorem vr_later {W W' : World} {μ : Mu} {v : AV} {u : Value} (him : ∀ k o u, μ.im k o = some u → k < W.heap.size ∧ W.cell? ⟨k, o, none⟩ = some u) (hc : v.closed = true) (hv : VR μ v u) (hb : Below W.heap.size W W') : VR (muOf W') v u :=
  hv.shut (fun k o u e => by
    obtain ⟨h1, h2⟩ := him k o u e
    exact (hb.cell (p := ⟨k, o, none⟩) h1).trans h2) hc
/-- The neighbours that graph.Near tells. -/
def nearI (n : Int) (es : List Ed) (a : Int) : List Int := if rightE n es then nbs a es else []
def hasExt (args : List AV) (H : Heap) : Option (Out AV) :=
  match args, H with
  | [.agg [.int .i64 n, v], .int .i64 a, .int .i64 b], [] => (match exE v with
    | some es => some (.ok (.bool ((nearI n es a).contains b)) [])
    | none => none)
  | _, _ => none
def nearV (ys : List Int) : AV := if ys = [] then .nils else .sl 0 0 0 ys.length 1 ys.length false
def nearH (ys : List Int) : Heap := if ys = [] then [] else [.cells 0 false (cI ys)]
def nearExt (args : List AV) (H : Heap) : Option (Out AV) :=
  match args, H with
  | [.agg [.int .i64 n, v], .int .i64 a], [] => (match exE v with
    | some es => some (.ok (nearV (nearI n es a)) (nearH (nearI n es a)))
    | none => none)
  | _, _ => none
/-- What Near hands back, as it lies. -/
def NearR (w w' : World) (e : TypeId) (u : Value) (ys : List Int) : Prop := w'.ownsRow w.heap.size e 1 u ys.length (ys.map (Value.int .i64)) ∧ (u = .slice none 0 0 ↔ ys = []) ∧ Below w.heap.size w w'
theorem has_out {B : Nat} {μ : Mu} {w w' : World} {b : Bool} (hH : HR B μ [] w) (hb : Below w.heap.size w w') : OutR B μ [] w (.ok (.bool b) []) (.returned (.bool b)) w' := by
  refine ⟨_, μ, rfl, .bool _, ?_, ?_⟩
  · exact ⟨fun b o h => by simp at h, fun b b' o o' a a' h => by simp at h, fun b o g a h => by simp at h, hH.fresh, Nat.le_trans hH.base hb.size, fun k o u h => by
      obtain ⟨h1, h2⟩ := hH.im k o u h
      exact ⟨Nat.lt_of_lt_of_le h1 hb.size, (hb.cell (p := ⟨k, o, none⟩) h1).trans h2⟩, fun b o a k j u h => by simp at h⟩
  · exact ⟨Mu.le_refl _, Nat.le_refl _, fun b o h => by simp at h, fun b o a h => by simp at h, fun k hk _ => hb.block k hk, hb.size, hb.os, hb.tape, hb.output, fun h => Bool.noConfusion (show false = true from h), fun k o u h => .inl h⟩
theorem near_out {B : Nat} {μ : Mu} {w w' : World} {e : TypeId} {u : Value} {ys : List Int} (hH : HR B μ [] w) (hr : NearR w w' e u ys) : OutR B μ [] w (.ok (nearV ys) (nearH ys)) (.returned u) w' := by
  obtain ⟨⟨_, hr⟩, hn, hb⟩ := hr
  by_cases h0 : ys = []
  · have hu := hn.2 h0
    subst h0; subst hu
    obtain ⟨_, ν, _, _, h1, h2⟩ := has_out (b := true) hH hb
    exact ⟨_, ν, rfl, .nils, h1, h2⟩
  · have hpos : 0 < ys.length := List.length_pos_iff.2 h0
    rcases hr with ⟨rfl, h⟩ | ⟨g, cap, cur, rfl, hg, hblk, hcap, _, hsz, hcur⟩
    · omega
    · have hgl : g < w'.heap.size := (Array.getElem?_eq_some_iff.1 hblk).1
      let ν : Mu := μ.set 0 0 ⟨g, 0, cap⟩
      have hs : ν 0 0 = some ⟨g, 0, cap⟩ := Mu.set_same _ _ _ _
      have hle : μ.le ν := Mu.le_set _ (hH.fresh _ _ (Nat.le_refl _))
      have hcell : ∀ i, w'.cell? ⟨g, i, none⟩ = cur[i]? := fun i => by simp [World.cell?, hblk]
      simp only [OutR, nearV, nearH, if_neg h0]
      have hcurl : ∀ (i : Nat) x, (cI ys)[i]? = some x → ∃ u, w'.cell? ⟨g, 0 + i, none⟩ = some u ∧ VR ν x u := by
        intro i x hx
        simp only [cI, List.getElem?_map, Option.map_eq_some_iff] at hx
        obtain ⟨z, hz, rfl⟩ := hx
        obtain ⟨hi, rfl⟩ := List.getElem?_eq_some_iff.1 hz
        refine ⟨.int .i64 ys[i], ?_, .int _ _⟩
        rw [Nat.zero_add, hcell, ← Array.getElem?_toList]
        have e1 : (cur.toList.take (ys.length * 1))[i]? = (ys.map (Value.int .i64))[i]? := by rw [hcur]
        rw [List.getElem?_take, if_pos (by omega)] at e1
        rw [e1]; simp [hi]
      refine ⟨_, ν, rfl, .sl (Nat.le_refl _) hcap (fun h => by cases h) (fun _ => ⟨_, hs, rfl, fun _ => by simp⟩), ?_, ?_⟩
      · refine ⟨?_, ?_, ?_, ?_, Nat.le_trans hH.base hb.size, ?_, ?_⟩
        · intro b o hbo hd
          match b, hbo with
          | 0, hbo =>
            simp at hbo; subst hbo
            refine ⟨_, hs, hgl, by simp [cI]; exact hcap, hcurl, fun h => (by cases h), fun _ => ⟨Nat.le_trans hH.base hg, fun i hi => ?_⟩⟩
            have hi' : i < cur.size := by rw [hsz]; simp at hi; omega
            refine ⟨⟨_, by rw [Nat.zero_add, hcell]; exact Array.getElem?_eq_getElem hi'⟩, by simp [World.frozen?, hblk]⟩
          | b + 1, hbo => simp at hbo
        · intro b b' o o' a a' h1 h2 hne
          match b, b', h1, h2 with
          | 0, 0, _, _ => exact absurd rfl hne
          | b + 1, _, h1, _ => simp at h1
          | 0, b' + 1, _, h2 => simp at h2
        · intro b o g' a h1 hd h2
          match b, h1 with
          | 0, h1 =>
            simp at h1; subst h1
            by_cases hg0 : g' = 0
            · subst hg0; exact Nat.le_refl _
            · rw [show ν 0 g' = μ 0 g' from Mu.set_other _ _ (fun h => hg0 h.2)] at h2
              rw [hH.fresh _ _ (Nat.zero_le _)] at h2; cases h2
          | b + 1, h1 => simp at h1
        · intro b g' hl
          rw [show ν b g' = μ b g' from Mu.set_other _ _ (fun h => by simp at hl; omega)]
          exact hH.fresh _ _ (Nat.zero_le _)
        · intro k o u h
          obtain ⟨h1, h2⟩ := hH.im k o u h
          exact ⟨Nat.lt_of_lt_of_le h1 hb.size, (hb.cell (p := ⟨k, o, none⟩) h1).trans h2⟩
        · intro b o a k j u h1 hrw h2 h3
          have := (hH.im k j u h3).1
          match b, h1 with
          | 0, h1 =>
            simp at h1; subst h1
            have h2' : ν 0 0 = some a := h2
            rw [hs] at h2'; cases h2'
            show g ≠ k; omega
          | b + 1, h1 => simp at h1
      · refine ⟨hle, by simp, fun b o h => by simp at h, ?_, fun k hk _ => hb.block k hk, hb.size, hb.os, hb.tape, hb.output, fun h => Bool.noConfusion (show false = true from h), fun k o u h => .inl h⟩
        intro b o a h1 hd h2
        match b, h1 with
        | 0, h1 =>
          simp at h1; subst h1
          have h2' : ν 0 0 = some a := h2
          rw [hs] at h2'; cases h2'
          exact .inl hg
        | b + 1, h1 => simp at h1
/-- What Near's answer comes to, seen as a value. -/
theorem near_view (ys : List Int) : viewR (nearH ys) (nearV ys) = some (rI ys) := by
  refine OwnI.view (P := 0) ?_
  by_cases h0 : ys = []
  · subst h0; exact own_nil 0 _ 1
  · refine .inr ⟨List.length_pos_iff.2 h0, 0, 0, false, by simp [nearV, h0], Nat.le_refl _, by simp [cI], by simp [nearH, h0]⟩
theorem pval_near {A : AProg} {f : Nat} (h : A.ext f = some nearExt) (n a : Int) (v : AV) (es : List Ed) (hv : IsE v es) : PVal A f [gV n v, .int .i64 a] (rI (nearI n es a)) :=
  ⟨1, _, _, by simp only [callK, h, nearExt, exE_of hv], near_view _⟩
theorem pval_hasx {A : AProg} {f : Nat} (h : A.ext f = some hasExt) (n a b : Int) (v : AV) (es : List Ed) (hv : IsE v es) : PVal A f [gV n v, .int .i64 a, .int .i64 b] (.bool ((nearI n es a).contains b)) :=
  ⟨1, _, [], by simp only [callK, h, hasExt, exE_of hv], viewR_closed rfl⟩
end Go.Ai
/- cert.Read as a function that is given from outside: what it answers; cert.source.cert in the model's words. -/
namespace Go.Ai.G
open Go.Ai Go.RowKit
set_option maxRecDepth 100000
set_option linter.unusedSimpArgs false
set_option linter.unusedVariables false
/-- The numbers of a row that is a value. -/
def exI : AV → Option (List Int)
  | .nils => some []
  | .vs n 1 c => (match decI c with
    | some l => if l.length = n then some l else none
    | none => none)
  | _ => none
theorem exI_is {v : AV} {l : List Int} (h : exI v = some l) : IsI v l := by
  unfold exI at h
  split at h
  · cases h; exact isI_nil
  · split at h
    · rename_i l' hl
      split at h
      · rename_i hn
        cases h
        have := decI_spec hl
        subst this; subst hn
        exact isI_v _
      · cases h
    · cases h
  · cases h
theorem exI_of {v : AV} {l : List Int} (h : IsI v l) : exI v = some l := by
  obtain ⟨h1, h2, ⟨rfl, h3⟩ | rfl⟩ := h
  · have : l = [] := List.length_eq_zero_iff.1 h3
    subst this; rfl
  · simp [exI, decI_cI]
/-- What Read reads. -/
def readR (l : List Int) : Option CV :=
  match certP l with
  | some (some c, []) => some c
  | _ => none
def readE (l : List Int) : Int := if (readR l).isSome then 0 else 3
def readExt (φ : Nat → Nat) (args : List AV) (H : Heap) : Option (Out AV) :=
  match args, H with
  | [v], [] => (match exI v with
    | some l => if l.length < 1000000000 then some (.ok (.tup [cvO φ (readR l), .int .i64 (readE l)]) []) else none
    | none => none)
  | _, _ => none
theorem w_ReadV {A : AProg} {φ : Nat → Nat} (hx : A.ext (φ 85) = some (readExt φ)) (v : AV) (l : List Int) (hv : IsI v l) (hn : l.length < 1000000000) (hc : (cvO φ (readR l)).closed = true) :
    PVal A (φ 85) [v] (.tup [cvO φ (readR l), .int .i64 (readE l)]) := by
  refine pval_ext hx ?_ (by rw [closed_tup, closeds_cons, closeds_cons, hc]; rfl)
  simp [readExt, exI_of hv, hn]
/-- Ahead of a call that reads one new variable. -/
theorem hr_box {B : Nat} {μ : Mu} {w W : World} (hH : HR B μ [] w) (hb : Below w.heap.size w W) {bx : Nat} {v : AV} {u : Value} (h0 : w.heap.size ≤ bx) (h1 : bx < W.heap.size) (hv : VR μ v u) (hc : W.cell? ⟨bx, 0, none⟩ = some u) (hf : W.frozen? ⟨bx, 0, none⟩ = false) :
    HR B (μ.set 0 0 ⟨bx, 0, 1⟩) [.cells 0 false [v]] W := by
  have hfr : ∀ b g, μ b g = none := fun b g => hH.fresh b g (Nat.zero_le _)
  have hle : μ.le (μ.set 0 0 ⟨bx, 0, 1⟩) := Mu.le_set _ (hfr _ _)
  have hs : (μ.set 0 0 ⟨bx, 0, 1⟩) 0 0 = some ⟨bx, 0, 1⟩ := Mu.set_same _ _ _ _
  have only : ∀ (b : Nat) o, ([.cells 0 false [v]] : Heap)[b]? = some o → b = 0 ∧ o = .cells 0 false [v] := fun b o h => by
    cases b with
    | zero => simp at h; exact ⟨rfl, h.symm⟩
    | succ b => simp at h
  refine ⟨fun b o h hd => ?_, fun b b' o o' a a' h h' hne => ?_, fun b o g a h hd ha => ?_, fun b g hl => ?_, Nat.le_trans hH.base hb.size, fun k o u' h => ?_, fun b o a k j u' h hr ha hu => ?_⟩
  · obtain ⟨rfl, rfl⟩ := only b o h
    refine ⟨⟨bx, 0, 1⟩, hs, h1, by simp, fun i x hx => ?_, (fun h => by cases h), fun _ => ⟨Nat.le_trans hH.base h0, fun i hi => ?_⟩⟩
    · cases i with
      | zero => simp at hx; subst hx; exact ⟨u, hc, hv.mono hle⟩
      | succ i => simp at hx
    · have : i = 0 := by simp at hi; exact hi
      subst this
      exact ⟨⟨u, hc⟩, hf⟩
  · exact absurd ((only b o h).1.trans (only b' o' h').1.symm) hne
  · obtain ⟨rfl, rfl⟩ := only b o h
    by_cases e : g = 0
    · subst e; exact Nat.le_refl _
    · rw [Mu.set_other _ _ (by omega), hfr] at ha; cases ha
  · simp at hl
    rw [Mu.set_other _ _ (by omega)]; exact hfr _ _
  · obtain ⟨k1, k2⟩ := hH.im k o u' h
    exact ⟨Nat.lt_of_lt_of_le k1 hb.size, (hb.cell (p := ⟨k, o, none⟩) k1).trans k2⟩
  · obtain ⟨rfl, rfl⟩ := only b o h
    have e : (⟨bx, 0, 1⟩ : At) = a := Option.some.inj (hs.symm.trans ha)
    subst e
    have := (hH.im k j u' hu).1
    show bx ≠ k
    omega
theorem rd_slice {P : Nat} {H : Heap} {v : AV} {xs : List Int} (h : RdI P H v xs) (hn : v ≠ .nils) {ν : Mu} {u : Value} (hu : VR ν v u) : ∃ s c, u = .slice s xs.length c := by
  rcases h with ⟨rfl, _⟩ | rfl | ⟨b, g, o, cl, ex, rfl, _⟩
  · exact absurd rfl hn
  · obtain ⟨k, off, p, c, ys, rfl, _⟩ := hu.vs_inv
    exact ⟨_, _, rfl⟩
  · cases hu with
    | sl h1 h2 h3 h4 => exact ⟨_, _, rfl⟩
/-- What cert does with its source, in the model's words. -/
def CertPost (φ : Nat → Nat) (B : Nat) (μ : Mu) (w W : World) (bx : Nat) (l : List Int) (e : Ending) (W' : World) : Prop :=
  ((∃ oc t x ν, certP l = some (oc, t) ∧ e = .returned x ∧ VR ν (cvO φ oc) x ∧ HR B ν [] W' ∧ μ.le ν ∧ (∀ k o u, ν.im k o = some u → μ.im k o = some u ∨ W.heap.size ≤ k ∨ k = bx) ∧ ∃ s c, W'.cell? ⟨bx, 0, none⟩ = some (.slice s t.length c)) ∨
    (certP l = none ∧ ∃ t u, e = .panicked [{ v := .iface t u, recovered := false }])) ∧ W.grownBy W' (some bx)
theorem cert_calls {A : AProg} {φ : Nat → Nat} (hx : A.ext = fun _ => none) {P : Program} (hf : (A.fns.all fun p => chkFn P p.1 p.2) = true) (h : Has A (φ 128) (f128 φ)) (g : CS A φ) {B : Nat} {μ : Mu} {w W : World} (hH : HR B μ [] w) (hb : Below w.heap.size w W) {bx : Nat} {v : AV} {u : Value} {l : List Int} (hl : IsI v l) (hn : l.length < 1000000000) (h0 : w.heap.size ≤ bx) (h1 : bx < W.heap.size) (hv : VR μ v u) (hc : W.cell? ⟨bx, 0, none⟩ = some u) (hfz : W.frozen? ⟨bx, 0, none⟩ = false) :
    Calls P (φ 128) #[.pointer (some ⟨bx, 0, none⟩)] W (CertPost φ B μ w W bx l) := by
  have hbox := hr_box hH hb h0 h1 hv hc hfz
  have hs : (μ.set 0 0 ⟨bx, 0, 1⟩) 0 0 = some ⟨bx, 0, 1⟩ := Mu.set_same _ _ _ _
  have hW : PCallE A (φ 128) [.ptr 0 0 0] [.cells 0 false [v]]
      (fun r H1 => ∃ oc t, certP l = some (oc, t) ∧ SrcS true 0 0 H1 t ∧ viewR H1 r = some (cvO φ oc)) (fun r H1 => certP l = none ∧ ∃ t u, r = .iface t u) :=
    w_cert h g (nn := false) (P := 0) (q := 0) (H := [.cells 0 false [v]]) (xs := l) ⟨v, rfl, hl.rd, Nat.le_refl _, fun h => by cases h⟩ (by omega) _ _ (fun oc t r H1 e1 e2 e3 _ => ⟨oc, t, e1, e2, e3⟩) (fun e t u H1 => ⟨e, t, u, rfl⟩)
  obtain ⟨k, out, hk, hout⟩ := hW
  have hE : ExtSound P A.ext := fun f x hfx => by rw [hx] at hfx; cases hfx
  refine ((prog_sound hE hf k _ _ _ _ hk).2.2 B _ W [.pointer (some ⟨bx, 0, none⟩)] hbox (VRs.cons (.ptr hs) (VRs.nil _))).mono ?_
  intro e W' he
  have grown : ∀ {H1 : Heap} {ν : Mu}, Ext [.cells 0 false [v]] H1 (μ.set 0 0 ⟨bx, 0, 1⟩) ν W W' → W.grownBy W' (some bx) := fun hx => by
    refine ⟨hx.os, hx.tape, hx.output, hx.size, fun k hk hne => hx.frame k hk fun b o a hb' hr ha e => ?_⟩
    cases b with
    | zero =>
      simp at hb'
      subst hb'
      have : (⟨bx, 0, 1⟩ : At) = a := Option.some.inj (hs.symm.trans ha)
      subst this
      exact hne (by rw [← e])
    | succ b => simp at hb'
  cases out with
  | pan r H1 =>
    obtain ⟨e1, t, u', rfl⟩ := hout
    obtain ⟨x, ν, rfl, h2, h3, h4⟩ := he
    refine ⟨.inr ⟨e1, ?_⟩, grown h4⟩
    cases h2 with
    | iface h => exact ⟨_, _, rfl⟩
  | ok r H1 =>
    obtain ⟨oc, t, e1, e2, e3⟩ := hout
    obtain ⟨x, ν, rfl, h2, h3, h4⟩ := he
    obtain ⟨ρ, H2, k1, k2, k3, k4⟩ := viewR_sound h3 h2 e3
    have hx2 := h4.trans k2
    refine ⟨.inl ⟨oc, t, x, ⟨fun _ _ => none, ρ.im⟩, e1, rfl, VR.shut (μ := ρ) (ν := ⟨fun _ _ => none, ρ.im⟩) (fun _ _ _ h => h) k3 k4, k1.bare, ⟨(fun b g a h => by rw [hH.fresh b g (Nat.zero_le _)] at h; cases h), fun k o u h => hx2.le.im k o u h⟩, fun k o u hu => ?_, ?_⟩, grown h4⟩
    · rcases hx2.im k o u hu with e | e | ⟨b, ob, a, hb', hr, ha, hk⟩
      · exact .inl e
      · exact .inr (.inl e)
      · cases b with
        | zero =>
          simp at hb'
          subst hb'
          have : (⟨bx, 0, 1⟩ : At) = a := Option.some.inj (hs.symm.trans ha)
          subst this
          exact .inr (.inr hk.symm)
        | succ b => simp at hb'
    · obtain ⟨v2, b1, b2, _, b4⟩ := e2
      obtain ⟨a, ha, hob⟩ := h3.ob 0 _ b1 (by simp)
      have : (⟨bx, 0, 1⟩ : At) = a := Option.some.inj ((h4.le 0 0 _ hs).symm.trans ha)
      subst this
      obtain ⟨u2, c1, c2⟩ := hob.2.2.1 0 v2 rfl
      obtain ⟨s, c, rfl⟩ := rd_slice b2 (b4 rfl) c2
      exact ⟨s, c, c1⟩
theorem cvV_iface {φ : Nat → Nat} {ν : Mu} {c : CV} {x : Value} (h : VR ν (cvV φ c) x) : ∃ ty xv, x = .iface ty xv := by
  cases c <;> (simp only [cvV] at h; cases h; exact ⟨_, _, rfl⟩)
theorem cvV_closed (φ : Nat → Nat) (c : CV) : (cvV φ c).closed = true := by
  have h1 : ∀ o : List Int, (vI o).closed = true := fun o => by show (AV.vs _ _ _).closed = true; rw [closed_vs]; exact closeds_cI o
  have h2 : ∀ xs : List (List Int), (rR xs).closed = true := fun xs => by
    unfold rR rv
    split
    · rfl
    · rw [closed_vs, closeds_iff]
      intro i x hx
      rw [List.getElem?_map, Option.map_eq_some_iff] at hx
      obtain ⟨z, _, rfl⟩ := hx
      exact h1 z
  have h3 : ∀ (k : Nat) (xs : List (List Int)), (rC k xs).closed = true := fun k xs => by
    unfold rC rv
    split
    · rfl
    · rw [closed_vs]; exact closeds_cI _
  have h4 : ∀ xs : List (List (List Int)), (rT xs).closed = true := fun xs => by
    unfold rT rv
    split
    · rfl
    · rw [closed_vs, closeds_iff]
      intro i x hx
      rw [List.getElem?_map, Option.map_eq_some_iff] at hx
      obtain ⟨z, _, rfl⟩ := hx
      exact h3 3 z
  cases c <;> simp [cvV, closed_iface, closed_agg, closeds_cons, closeds_nil, h1, h2, h3, h4, closed_int]
theorem cvO_closed (φ : Nat → Nat) (c : Option CV) : (cvO φ c).closed = true := by
  cases c
  · rfl
  · exact cvV_closed φ _
/-- The end: what lies below is as it lay, the answer's memory from n on. -/
theorem read_out {B n : Nat} {μ ν : Mu} {w W4 W5 : World} (hH : HR B μ [] w) (h4 : HR B ν [] W4) (hle : μ.le ν) (him : ∀ k o u, ν.im k o = some u → μ.im k o = some u ∨ n ≤ k) (hn : w.heap.size ≤ n) (hs : W5.heap.size = W4.heap.size) (hb4 : Below w.heap.size w W4) (hb5 : Below w.heap.size w W5) (hk : ∀ k, n ≤ k → W5.heap[k]? = W4.heap[k]?)
    {r : AV} {x : Value} (hv : VR ν r x) : OutR B μ [] w (.ok r []) (.returned x) W5 := by
  refine ⟨x, ν, rfl, hv, ⟨fun b o h => by simp at h, fun b b' o o' a a' h => by simp at h, fun b o g a h => by simp at h, h4.fresh, by rw [hs]; exact h4.base, fun k o u h => ?_, fun b o a k j u h => by simp at h⟩, ⟨hle, Nat.le_refl _, fun b o h => by simp at h, fun b o a h => by simp at h, fun k hk' _ => hb5.block k hk', hb5.size, hb5.os, hb5.tape, hb5.output, fun h => Bool.noConfusion (show false = true from h), fun k o u h => ?_⟩⟩
  · obtain ⟨h1, h2⟩ := h4.im k o u h
    refine ⟨by rw [hs]; exact h1, ?_⟩
    rw [← h2]
    simp only [World.cell?]
    rcases him k o u h with h' | h'
    · have := (hH.im k o u h').1
      rw [hb5.block k this, hb4.block k this]
    · rw [hk k h']
  · rcases him k o u h with h' | h'
    · exact .inl h'
    · exact .inr (.inl (Nat.le_trans hn h'))
theorem hr_below {B : Nat} {μ : Mu} {w W : World} (hH : HR B μ [] w) (hb : Below w.heap.size w W) : HR B μ [] W :=
  ⟨fun b o h => by simp at h, fun b b' o o' a a' h => by simp at h, fun b o g a h => by simp at h, hH.fresh, Nat.le_trans hH.base hb.size, fun k o u h => by
    obtain ⟨h1, h2⟩ := hH.im k o u h
    exact ⟨Nat.lt_of_lt_of_le h1 hb.size, (hb.cell (p := ⟨k, o, none⟩) h1).trans h2⟩, fun b o a k j u h => by simp at h⟩
end Go.Ai.G
/- cert.Sub, behind its defer; what it answers. -/
namespace Go.Ai.G
open Go.Ai
set_option maxRecDepth 100000
set_option linter.unusedSimpArgs false
set_option linter.unusedVariables false
variable {A : AProg} {φ : Nat → Nat}
attribute [local simp ↓] getD_z getD_s hid_k hid_o hid_q hid_v PO_nil PO_none PO_grd PD_nil PD_none PD_grd PDO_N PDO_X PDO_call PDO_calli PDO_callv PSX_N PSX_X PSX_call PSX_calli PSX_callv PSX_inv
  PSX_callp PSX_panic PDO_inv PStep_inv thenC_pan blockC_pan loopC_pan endX_ret endX_norm endX_pan PStep_N PStep_X PStep_call PStep_calli PC_skip PC_lab PC_ret PC_exit PC_reg PC_draw
  PC_seq PC_block PC_loop PC_scope PC_cond thenC_norm thenC_ret thenC_exit blockC_norm blockC_ret blockC_exit loopC_norm loopC_ret loopC_exit endR_ret endR_norm
attribute [local simp] gz PDX_free PDX_eq KI_some n_mki n_tas0 n_tasf PStep_callv resK_none resK_t resK_tt KNO_val KNO_new KNO_ite KNO_map KXO_some KXO_ite KVA_t KVA_f KG_skip KG_tt KG_ff KG_tf KG_ft
  KB_true KB_false KNOD_val KNOD_new KNOD_ite n_mv n_pick n_bin n_eqB n_eqN n_eqS n_un n_conv n_fadd n_faddV n_fld1 n_fldN n_idx n_idxA n_idxV n_idxAV n_ext n_lenS n_lenS0 n_lenV
  n_lenT n_lenA n_min n_max n_build n_mkfn n_slc n_slc0 n_slcV n_slcA n_load1 n_loadN n_load1V n_loadNV n_alloc n_box n_bsl n_mksl n_nilcP n_nilcV n_nilcI n_nilcF x_store x_clear0
  x_clear b_add b_sub b_mul b_eql b_neq b_lss b_leq b_gtr b_geq b_and16 unV ntouch gather hide unhide evalOpd applyOuts int_bne int_beq ite_bool ite_int one_bool cells_bool one_int
  cells_int one_str cells_str one_nilp cells_nilp one_ptr cells_ptr one_nils cells_nils one_sl cells_sl one_nilf cells_nilf one_fn cells_fn one_nili cells_nili one_mp cells_mp
  one_nilm cells_nilm one_iface cells_iface one_vs cells_vs one_vp cells_vp cells_agg Nat.testBit setAt_1 setAt_2 closeds_nil closeds_cons closed_bool closed_int closed_str
  closed_nilp closed_nils closed_nilm closed_nilf closed_nili closed_agg closed_tup closed_vs closed_vp closed_iface closed_fn closeds_cI closeds_cE viewA_closed viewR_closed AV.scal
  AV.scal0 fillA repA part_bool part_int part_str part_nilp part_ptr part_nils part_sl part_nilm part_mp part_nilf part_fn part_nili part_iface part_agg part_vs part_vp viewA_sl1
  vaSl_cells wrap_0 wrap_1 wrap_2 wrap_m1 set_last get_last
theorem er130_0 (φ : Nat → Nat) : r130_0 φ = [
  ⟨0, .N .mv, [.n 0], none, 0⟩,
  ⟨1, .N (.tasf (φ 87)), [.l 0], none, 0⟩,
  ⟨2, .N (.fldN 0 3), [.l 0], none, 0⟩,
  ⟨3, .N (.alloc [.int .i64 0, .nils, .nils]), [], none, 0⟩,
  ⟨4, .X (.store 3), [.l 0, .l 1], none, 0⟩] := Eq.trans rfl rfl
theorem er130_1 (φ : Nat → Nat) : r130_1 φ = [
  ⟨0, .N (.fadd 0), [.n 3], none, 0⟩,
  ⟨1, .N .load1, [.l 0], none, 1⟩,
  ⟨2, .N (.fadd 1), [.n 3], none, 0⟩,
  ⟨3, .N .load1, [.l 0], none, 4⟩,
  ⟨4, .call (φ 122), [.l 0], none, 12⟩,
  ⟨5, .N (.build [.int .i64 0, .nils, .nils] [(0, 1), (1, 1)]), [.l 3, .l 0], none, 31⟩,
  ⟨6, .X (.store 3), [.n 1, .l 0], none, 63⟩] := Eq.trans rfl rfl
theorem er130_2 (φ : Nat → Nat) : r130_2 φ = [
  ⟨0, .N (.fadd 2), [.n 3], none, 0⟩,
  ⟨1, .N .load1, [.l 0], none, 0⟩,
  ⟨2, .N .lenS, [.l 0], none, 0⟩,
  ⟨3, .N .mv, [.c (.int .i64 0)], none, 0⟩] := Eq.trans rfl rfl
theorem er130_3 (φ : Nat → Nat) : r130_3 φ = [
  ⟨0, .N (.bin .lss), [.n 7, .n 6], none, 0⟩] := Eq.trans rfl rfl
theorem er130_4 (φ : Nat → Nat) : r130_4 φ = [
  ⟨0, .N (.idx 1), [.n 5, .n 7], none, 0⟩,
  ⟨1, .N .load1, [.l 0], none, 0⟩,
  ⟨2, .N .mv, [.l 0], none, 0⟩] := Eq.trans rfl rfl
theorem er130_5 (φ : Nat → Nat) : r130_5 φ = [
  ⟨0, .N (.fadd 2), [.n 1], none, 0⟩,
  ⟨1, .N .load1, [.l 0], none, 1⟩,
  ⟨2, .N .mv, [.n 4], none, 0⟩,
  ⟨3, .call (φ 122), [.l 0], none, 4⟩,
  ⟨4, .N (.bsl [.nils] 1 1 [(0, 1)]), [.l 0], none, 12⟩,
  ⟨5, .X (.app 1 24), [.l 3, .l 0], none, 31⟩,
  ⟨6, .N (.fadd 2), [.n 1], none, 63⟩,
  ⟨7, .X (.store 1), [.l 0, .l 1], none, 127⟩] := Eq.trans rfl rfl
theorem er130_6 (φ : Nat → Nat) : r130_6 φ = [
  ⟨0, .N (.bin .add), [.n 7, .c (.int .i64 1)], none, 0⟩,
  ⟨1, .N .mv, [.l 0], none, 0⟩] := Eq.trans rfl rfl
theorem er130_8 (φ : Nat → Nat) : r130_8 φ = [
  ⟨0, .N (.loadN 3), [.n 1], none, 0⟩,
  ⟨1, .X (.store 3), [.n 1, .l 0], none, 0⟩,
  ⟨2, .X (.store 1), [.n 2, .c (.int .i64 0)], none, 0⟩] := Eq.trans rfl rfl
theorem rR_at {ps : List (List Int)} {i : Nat} (hi : i < ps.length) : ∃ l, (∀ (k : IntKind) rd, nstep (.idx 1) [rR ps, .int k (i : Int)] rd = some (.val (.vp l i))) ∧ l[i]? = some (vI ps[i]) := by
  refine ⟨ps.map vI, fun k rd => ?_, by simp [hi]⟩
  have : ¬ ps.length = 0 := by omega
  simp only [rR, rv, this, and_false, if_false]
  rw [n_idxV, if_pos ⟨rfl, by omega, by omega, by omega⟩]; simp
theorem rR_len (ps : List (List Int)) (rd : Nat → Option Ob) : nstep .lenS [rR ps] rd = some (.val (.int .i64 ps.length)) := by
  unfold rR rv
  split
  · rename_i h
    rw [h.2]; rfl
  · rfl
theorem rR_one (ps : List (List Int)) : (rR ps).one = true := by unfold rR rv; split <;> rfl
theorem rR_cells (ps : List (List Int)) : (rR ps).cells = [rR ps] := by unfold rR rv; split <;> rfl
theorem rR_part (ps : List (List Int)) : (rR ps).part = true := by unfold rR rv; split <;> rfl
theorem isI_one' {v : AV} {l : List Int} (h : IsI v l) : v.one = true := h.rd.one (P := 0) (H := [])
theorem isI_cells' {v : AV} {l : List Int} (h : IsI v l) : v.cells = [v] := h.rd.cells (P := 0) (H := [])
theorem isI_part' {v : AV} {l : List Int} (h : IsI v l) : v.part = true := by obtain ⟨_, _, ⟨rfl, _⟩ | rfl⟩ := h <;> rfl
theorem w_CloneV (h : Has A (φ 122) (f122 φ)) {H : Heap} {v : AV} {xs : List Int} (hv : IsI v xs) (hn : xs.length < 1000000000000) (K : AV → Heap → Prop)
    (hK : ∀ o H' bs, SeesF 2 H' o v bs → (∀ b, blkOf o = some b → H.length ≤ b ∧ b < H'.length) → (∀ H'', (∀ b, blkOf o = some b → H''[b]? = H'[b]?) → SeesF 2 H'' o v bs) → (∀ k, k < H.length → H'[k]? = H[k]?) → H.length ≤ H'.length → o.one = true → o.cells = [o] → o.part = true → K o H') : PCall A (φ 122) [v] H K := by
  by_cases hx : v = .nils
  · subst hx
    have hc : ∀ H'', SeesF 2 H'' AV.nils AV.nils [] := fun _ => (seesF_closed rfl).mono (by omega)
    have hk := hK .nils H [] (hc _) (fun b hb => by cases hb) (fun _ _ => hc _) (fun _ _ => rfl) (Nat.le_refl _) rfl rfl rfl
    refine pcall_has h rfl ?_
    simp only [b122, f122]
    have h1 : ∀ rd, nstep (.eqN 1 false) [.nils, .nils] rd = some (.val (.bool true)) := fun rd => by rw [n_eqN]; rfl
    simp [-List.getD_eq_getElem?_getD, -Int.ofNat_toNat, -getElem?_pos, er122_0, er122_1, er122_2, er122_3, h1, resK, resVs, resV, pack]
    exact hk
  · have hvv : v = vI xs := by
      obtain ⟨_, _, ⟨rfl, _⟩ | rfl⟩ := hv
      · exact absurd rfl hx
      · rfl
    refine w_CloneI h (P := 0) hv.rd hx (Nat.zero_le _) hn _ fun o H' ho k l => ?_
    have hs : ∀ H'', (∀ b, blkOf o = some b → H''[b]? = H'[b]?) → SeesF 2 H'' o v (blkOf o).toList := fun H'' hk' => by
      have := ((Own.vw ho).keep (H' := H'') hk').seesF (closeds_cI xs)
      simpa [rv, hvv] using this
    exact hK o H' _ (hs H' fun _ _ => rfl) (fun b hb => Own.blk ho hb) hs k l (Own.one ho) (Own.cells ho) (Own.part ho)
set_option maxHeartbeats 2000000 in
theorem w_SubRest (g : Has A (φ 122) (f122 φ)) (k : Int) {v : AV} {l : List Int} (hv : IsI v l) (hn : l.length < 1000000000000) (ps : List (List Int)) (hp : ps.length < 1000000000000) (hps : ∀ p ∈ ps, p.length < 1000000000000) :
    PC A (b130 φ) ([.iface (φ 87) (.agg [.int .i64 k, v, rR ps]), .ptr 0 0 0, .ptr 1 0 0, .un, .un, .un, .un, .un, .un], [.cells 0 false [.int .i64 0, .nils, .nils], .cells 0 false [.int .i64 0]])
      fun ex st => ex = .ret ∧ st.1.take 3 = [.iface (φ 87) (.agg [.int .i64 k, v, rR ps]), .ptr 0 0 0, .ptr 1 0 0] ∧ ∃ tv pv, st.2[0]? = some (.cells 0 false [.int .i64 k, tv, pv]) ∧ st.2[1]? = some (.cells 0 false [.int .i64 0]) ∧ viewR st.2 (.agg [.int .i64 k, tv, pv]) = some (.agg [.int .i64 k, v, rR ps]) := by
  simp only [l130_7, b130]
  have c1 := isI_one' hv
  have c2 := isI_cells' hv
  have c3 := isI_part' hv
  have c4 := rR_one ps
  have c5 := rR_cells ps
  have c6 := rR_part ps
  have c7 := rR_len ps
  have hat := fun {i : Nat} => rR_at (ps := ps) (i := i)
  generalize hR : rR ps = R at *
  simp [-List.getD_eq_getElem?_getD, -Int.ofNat_toNat, -getElem?_pos, er130_0, er130_1, er130_2, er130_3, er130_4, er130_5, er130_6, er130_8, c1, c2, c3, c4, c5, c6, setAt]
  refine w_CloneV g hv hn _ fun tv H1 bs hs hb hk k1 l1 o1 o2 o3 => ?_
  simp only [hid_k]
  simp only [List.length_cons, List.length_nil, Nat.zero_add, Nat.reduceAdd] at l1 k1 hb
  have b0 : H1[0]? = some (.cells 0 false [.int .i64 0, .nils, .nils]) := k1 0 (by omega)
  have b1 : H1[1]? = some (.cells 0 false [.int .i64 0]) := k1 1 (by omega)
  have b2 : H1[2]? = some (.cells 0 false [.int .i64 k, v, R]) := k1 2 (by omega)
  refine ⟨fun b hb => k1 b (by simp at hb; omega), ?_⟩
  simp [-List.getD_eq_getElem?_getD, -Int.ofNat_toNat, -getElem?_pos, er130_0, er130_1, er130_2, er130_3, er130_4, er130_5, er130_6, er130_8, b0, b1, b2, c7, o1, o2, o3, setAt]
  have d0 : (H1.set 0 (.cells 0 false [.int .i64 k, tv, .nils]))[0]? = some (.cells 0 false [.int .i64 k, tv, .nils]) := List.getElem?_set_self (by omega)
  have d1 : (H1.set 0 (.cells 0 false [.int .i64 k, tv, .nils]))[1]? = some (.cells 0 false [.int .i64 0]) := by rw [List.getElem?_set_ne (by omega)]; exact b1
  have d2 : (H1.set 0 (.cells 0 false [.int .i64 k, tv, .nils]))[2]? = some (.cells 0 false [.int .i64 k, v, R]) := by rw [List.getElem?_set_ne (by omega)]; exact b2
  have dt : ∀ b, blkOf tv = some b → (H1.set 0 (.cells 0 false [.int .i64 k, tv, .nils]))[b]? = H1[b]? := fun b h => List.getElem?_set_ne (by have := (hb b h).1; omega)
  have dl : (H1.set 0 (.cells 0 false [.int .i64 k, tv, .nils])).length = H1.length := by simp
  generalize H1.set 0 (.cells 0 false [.int .i64 k, tv, .nils]) = H2 at *
  refine pc_loopI (fun m st => ∃ (i : Nat) (pv p4 p8 : AV) (H' : Heap), i + m = ps.length ∧ H'[0]? = some (.cells 0 false [.int .i64 k, tv, pv]) ∧ H'[1]? = some (.cells 0 false [.int .i64 0]) ∧ H'[2]? = some (.cells 0 false [.int .i64 k, v, R]) ∧ (∀ b, blkOf tv = some b → H'[b]? = H1[b]?) ∧ OwnR true H1.length H' pv (ps.take i) ∧ H1.length ≤ H'.length ∧
      st = ([.iface (φ 87) (.agg [.int .i64 k, v, R]), .ptr 0 0 0, .ptr 1 0 0, .ptr 2 0 0, p4, R, .int .i64 ps.length, .int .i64 i, p8], H')) ps.length ⟨0, .nils, _, _, H2, by simp, d0, d1, d2, dt, ownR_nil _ _, by omega, rfl⟩ ?_
  rintro m st ⟨i, pv, p4, p8, H', hi, e0, e1, e2, et, eo, el, rfl⟩
  by_cases hlt : i < ps.length
  · have hlt' : (i : Int) < ps.length := by omega
    have hiw := wrap1 hlt (by omega)
    obtain ⟨L, x1, x2⟩ := hat hlt
    have hpl : ps[i].length < 1000000000000 := hps _ (List.getElem_mem hlt)
    have q1 := eo.one
    have q2 := eo.cells
    have q3 := eo.part
    simp [-List.getD_eq_getElem?_getD, -Int.ofNat_toNat, -getElem?_pos, er130_0, er130_1, er130_2, er130_3, er130_4, er130_5, er130_6, er130_8, hlt', hlt, x1, x2, e0, e1, e2]
    refine w_CloneI g (P := 0) (isI_v _).rd (by simp) (Nat.zero_le _) hpl _ fun o H4 ho k4 l4 => ?_
    simp only [hid_k]
    have f0 := (k4 0 (by omega)).trans e0
    have f1 := (k4 1 (by omega)).trans e1
    have f2 := (k4 2 (by omega)).trans e2
    refine ⟨fun b hb => k4 b (by simp at hb; omega), ?_⟩
    have eo4 : OwnR true H1.length H4 pv (ps.take i) := eo.keep (fun b _ hb' => k4 b hb') l4
    obtain ⟨o5, H5, y1, y2, y3, y4, y5, y6⟩ := eo4.app1 (Own.vw ho) (fun b hbl => by
      obtain ⟨b1, b2⟩ := Own.blk ho hbl
      refine ⟨by omega, b2, fun e => ?_⟩
      have := (eo.blk e).2
      omega) (by omega) (by simp; omega)
    have g0 := (y3 0 (by omega)).trans f0
    have g1 := (y3 1 (by omega)).trans f1
    have g2 := (y3 2 (by omega)).trans f2
    have htk : ps.take i ++ [ps[i]] = ps.take (i + 1) := by rw [List.take_add_one]; simp [hlt]
    rw [htk] at y2
    simp [-List.getD_eq_getElem?_getD, -Int.ofNat_toNat, -getElem?_pos, er130_0, er130_1, er130_2, er130_3, er130_4, er130_5, er130_6, er130_8, Own.one ho, Own.cells ho, Own.part ho, f0, f1, f2, y1, y5, y6, g0, g1, g2, setAt, hiw]
    refine next_mk (m - 1) (by omega) ⟨i + 1, o5, _, _, _, by omega, List.getElem?_set_self (by omega), by rw [List.getElem?_set_ne (by omega)]; exact g1, by rw [List.getElem?_set_ne (by omega)]; exact g2, fun b hb' => ?_, y2.keep (fun b hb' _ => List.getElem?_set_ne (by omega)) (by simp), by simp; omega, rfl⟩
    have := hb b hb'
    rw [List.getElem?_set_ne (by omega), y3 b (by omega), k4 b (by omega)]; exact et b hb'
  · have hlt' : ¬ (i : Int) < ps.length := by omega
    have hie : i = ps.length := by omega
    subst hie
    rw [List.take_length] at eo
    obtain ⟨bs2, hs2⟩ := eo.seesF
    have hvr : viewR H' (.agg [.int .i64 k, tv, pv]) = some (.agg [.int .i64 k, v, R]) := by
      refine (SeesL.agg (SeesL.cons ((seesF_closed rfl).mono (e := 4) (by omega)) (SeesL.cons ((hk H' et).mono (by omega)) (SeesL.cons hs2 ((seesL_nil _).mono (by omega)) (by omega)) (by omega)) (by omega))).vr (by omega) |>.trans ?_
      simp [← hR]
    have q1 := eo.one
    have q2 := eo.cells
    have q3 := eo.part
    have s0 : H'.set 0 (.cells 0 false [.int .i64 k, tv, pv]) = H' := by obtain ⟨h, e⟩ := List.getElem?_eq_some_iff.1 e0; rw [← e]; exact List.set_getElem_self h
    have s1 : H'.set 1 (.cells 0 false [.int .i64 0]) = H' := by obtain ⟨h, e⟩ := List.getElem?_eq_some_iff.1 e1; rw [← e]; exact List.set_getElem_self h
    have l0 := lt_of_get e0
    have l1 := lt_of_get e1
    simp [-List.getD_eq_getElem?_getD, -Int.ofNat_toNat, -getElem?_pos, er130_0, er130_1, er130_2, er130_3, er130_4, er130_5, er130_6, er130_8, hlt', e0, e1, e2, o1, o2, o3, q1, q2, q3, s0, s1, setAt]
    exact ⟨tv, pv, ⟨rfl, rfl⟩, hvr⟩
def decR : List AV → Option (List (List Int))
  | [] => some []
  | v :: vs => match v, decR vs with
    | .vs n 1 c, some ps => (match decI c with
      | some l => if l.length = n then some (l :: ps) else none
      | none => none)
    | _, _ => none
def exRs : AV → Option (List (List Int))
  | .nils => some []
  | .vs n 1 c => (match decR c with
    | some ps => if ps.length = n ∧ n ≠ 0 then some ps else none
    | none => none)
  | _ => none
theorem decR_spec : ∀ {vs : List AV} {ps : List (List Int)}, decR vs = some ps → vs = ps.map vI
  | [], ps, h => by simp [decR] at h; subst h; rfl
  | v :: vs, ps, h => by
    simp only [decR] at h
    split at h
    · rename_i n c qs hq
      split at h
      · rename_i l hl
        split at h
        · rename_i hn
          cases h
          have := decI_spec hl
          subst this; subst hn
          rw [List.map_cons, ← decR_spec hq]
        · cases h
      · cases h
    · cases h
theorem decR_of : ∀ (ps : List (List Int)), decR (ps.map vI) = some ps
  | [] => rfl
  | p :: ps => by
    rw [List.map_cons]
    have := decR_of ps
    simp [decR, this, decI_cI]
theorem exRs_spec {v : AV} {ps : List (List Int)} (h : exRs v = some ps) : v = rR ps := by
  unfold exRs at h
  split at h
  · cases h; rfl
  · split at h
    · rename_i ps' hd
      split at h
      · rename_i hn
        cases h
        have := decR_spec hd
        subst this
        simp [rR, rv, hn.1, hn.2]
      · cases h
    · cases h
  · cases h
theorem exRs_of (ps : List (List Int)) : exRs (rR ps) = some ps := by
  cases ps with
  | nil => rfl
  | cons p ps =>
    have := decR_of (p :: ps)
    simp only [rR, rv]
    simp only [List.length_cons, Nat.add_one_ne_zero, and_false, if_false]
    simp [exRs, -List.map_cons, this]
/-- What Sub answers where there is no Bar. -/
def subNo : AV := .tup [.agg [.int .i64 0, .nils, .nils], .int .i64 7]
def subExt (φ : Nat → Nat) (args : List AV) (H : Heap) : Option (Out AV) :=
  match args, H with
  | [.nili], [] => some (.ok subNo [])
  | [.iface t x], [] => if t = φ 87 then (match x with
      | .agg [.int .i64 k, v, p] => (match exI v, exRs p with
        | some l, some ps => if l.length < 1000000000 ∧ ps.length < 1000000000 ∧ ps.all (fun q => decide (q.length < 1000000000)) = true then some (.ok (.tup [.agg [.int .i64 k, v, p], .int .i64 0]) []) else none
        | _, _ => none)
      | _ => none)
    else if x.closed then some (.ok subNo []) else none
  | _, _ => none
theorem w_SubBar {A : AProg} {φ : Nat → Nat} (hx : A.ext (φ 105) = some (subExt φ)) (k : Int) (v : AV) (l : List Int) (ps : List (List Int)) (hv : IsI v l) (hl : l.length < 1000000000) (hp : ps.length < 1000000000) (hps : ∀ q ∈ ps, q.length < 1000000000) (hc : (rR ps).closed = true) :
    PVal A (φ 105) [.iface (φ 87) (.agg [.int .i64 k, v, rR ps])] (.tup [.agg [.int .i64 k, v, rR ps], .int .i64 0]) := by
  have hvc : v.closed = true := by
    obtain ⟨_, hcl, ⟨rfl, _⟩ | rfl⟩ := hv
    · rfl
    · rw [closed_vs]; exact hcl
  refine pval_ext hx ?_ (by simp [closed_tup, closeds_cons, closed_agg, hc, hvc, closed_int, closeds_nil])
  have hall : ps.all (fun q => decide (q.length < 1000000000)) = true := by rw [List.all_eq_true]; intro q hq; exact decide_eq_true (hps q hq)
  simp [subExt, exI_of hv, exRs_of, hl, hp]
  exact hps
theorem w_SubNo {A : AProg} {φ : Nat → Nat} (hx : A.ext (φ 105) = some (subExt φ)) (t : TypeId) (x : AV) (ht : t ≠ φ 87) (hc : x.closed = true) : PVal A (φ 105) [.iface t x] subNo := by
  refine pval_ext hx ?_ rfl
  simp [subExt, ht, hc]
end Go.Ai.G
/- cert.row, rows: numbers written into a row of one's own. -/
namespace Go.Ai.G
open Go.Ai
set_option maxRecDepth 100000
set_option linter.unusedSimpArgs false
set_option linter.unusedVariables false
variable {A : AProg} {φ : Nat → Nat}
attribute [local simp ↓] getD_z getD_s hid_k hid_o hid_q hid_v PO_nil PO_none PO_grd PD_nil PD_none PD_grd PDO_N PDO_X PDO_call PDO_calli PDO_callv PSX_N PSX_X PSX_call PSX_calli PSX_callv PSX_inv
  PSX_callp PSX_panic PDO_inv PStep_inv thenC_pan blockC_pan loopC_pan endX_ret endX_norm endX_pan PStep_N PStep_X PStep_call PStep_calli PC_skip PC_lab PC_ret PC_exit PC_reg PC_draw
  PC_seq PC_block PC_loop PC_scope PC_cond thenC_norm thenC_ret thenC_exit blockC_norm blockC_ret blockC_exit loopC_norm loopC_ret loopC_exit endR_ret endR_norm
attribute [local simp] gz PDX_free PDX_eq KI_some n_mki n_tas0 n_tasf PStep_callv resK_none resK_t resK_tt KNO_val KNO_new KNO_ite KNO_map KXO_some KXO_ite KVA_t KVA_f KG_skip KG_tt KG_ff KG_tf KG_ft
  KB_true KB_false KNOD_val KNOD_new KNOD_ite n_mv n_pick n_bin n_eqB n_eqN n_eqS n_un n_conv n_fadd n_faddV n_fld1 n_fldN n_idx n_idxA n_idxV n_idxAV n_ext n_lenS n_lenS0 n_lenV
  n_lenT n_lenA n_min n_max n_build n_mkfn n_slc n_slc0 n_slcV n_slcA n_load1 n_loadN n_load1V n_loadNV n_alloc n_box n_bsl n_mksl n_nilcP n_nilcV n_nilcI n_nilcF x_store x_clear0
  x_clear b_add b_sub b_mul b_eql b_neq b_lss b_leq b_gtr b_geq b_and16 unV ntouch gather hide unhide evalOpd applyOuts int_bne int_beq ite_bool ite_int one_bool cells_bool one_int
  cells_int one_str cells_str one_nilp cells_nilp one_ptr cells_ptr one_nils cells_nils one_sl cells_sl one_nilf cells_nilf one_fn cells_fn one_nili cells_nili one_mp cells_mp
  one_nilm cells_nilm one_iface cells_iface one_vs cells_vs one_vp cells_vp cells_agg Nat.testBit setAt_1 setAt_2 closeds_nil closeds_cons closed_bool closed_int closed_str
  closed_nilp closed_nils closed_nilm closed_nilf closed_nili closed_agg closed_tup closed_vs closed_vp closed_iface closed_fn closeds_cI closeds_cE viewA_closed viewR_closed AV.scal
  AV.scal0 fillA repA part_bool part_int part_str part_nilp part_ptr part_nils part_sl part_nilm part_mp part_nilf part_fn part_nili part_iface part_agg part_vs part_vp viewA_sl1
  vaSl_cells wrap_0 wrap_1 wrap_2 wrap_m1 set_last get_last
theorem er120_0 (φ : Nat → Nat) : r120_0 φ = [
  ⟨0, .N .mv, [.c (.nils)], none, 0⟩] := Eq.trans rfl rfl
theorem er120_1 (φ : Nat → Nat) : r120_1 φ = [
  ⟨0, .N .mv, [.n 0], none, 0⟩,
  ⟨1, .N .mv, [.n 1], none, 0⟩,
  ⟨2, .N .lenS, [.l 0], none, 0⟩,
  ⟨3, .N (.bsl [.int .i64 0] 1 1 [(0, 1)]), [.l 0], none, 0⟩,
  ⟨4, .X (.app 1 8), [.l 3, .l 0], none, 0⟩,
  ⟨5, .N .mv, [.n 1], none, 0⟩,
  ⟨6, .X (.app 1 8), [.l 1, .l 0], none, 0⟩,
  ⟨7, .N .mv, [.l 0], none, 0⟩] := Eq.trans rfl rfl
theorem er121_0 (φ : Nat → Nat) : r121_0 φ = [
  ⟨0, .N .mv, [.c (.nils)], none, 0⟩] := Eq.trans rfl rfl
theorem er121_1 (φ : Nat → Nat) : r121_1 φ = [
  ⟨0, .N .mv, [.n 0], none, 0⟩,
  ⟨1, .N .mv, [.n 1], none, 0⟩,
  ⟨2, .N .lenS, [.l 0], none, 0⟩,
  ⟨3, .N (.bsl [.int .i64 0] 1 1 [(0, 1)]), [.l 0], none, 0⟩,
  ⟨4, .X (.app 1 8), [.l 3, .l 0], none, 0⟩,
  ⟨5, .N .mv, [.l 0], none, 0⟩] := Eq.trans rfl rfl
theorem er121_2 (φ : Nat → Nat) : r121_2 φ = [
  ⟨0, .N .mv, [.n 1], none, 0⟩,
  ⟨1, .N .lenS, [.l 0], none, 0⟩,
  ⟨2, .N .mv, [.c (.int .i64 0)], none, 0⟩] := Eq.trans rfl rfl
theorem er121_3 (φ : Nat → Nat) : r121_3 φ = [
  ⟨0, .N (.bin .lss), [.n 6, .n 5], none, 0⟩] := Eq.trans rfl rfl
theorem er121_4 (φ : Nat → Nat) : r121_4 φ = [
  ⟨0, .N (.idx 1), [.n 4, .n 6], none, 0⟩,
  ⟨1, .N .load1, [.l 0], none, 0⟩,
  ⟨2, .N .mv, [.l 0], none, 0⟩] := Eq.trans rfl rfl
theorem er121_5 (φ : Nat → Nat) : r121_5 φ = [
  ⟨0, .N .mv, [.n 0], none, 0⟩,
  ⟨1, .N .mv, [.n 3], none, 0⟩,
  ⟨2, .call (φ 120), [.l 1, .l 0], none, 0⟩,
  ⟨3, .N .mv, [.l 0], none, 0⟩] := Eq.trans rfl rfl
theorem er121_6 (φ : Nat → Nat) : r121_6 φ = [
  ⟨0, .N (.bin .add), [.n 6, .c (.int .i64 1)], none, 0⟩,
  ⟨1, .N .mv, [.l 0], none, 0⟩] := Eq.trans rfl rfl
theorem er121_8 (φ : Nat → Nat) : r121_8 φ = [
  ⟨0, .N .mv, [.n 0], none, 0⟩,
  ⟨1, .N .mv, [.l 0], none, 0⟩] := Eq.trans rfl rfl
def putRow (l : List Int) : List Int := (l.length : Int) :: l
def putRows (rs : List (List Int)) : List Int := (rs.length : Int) :: rs.flatMap putRow
def putTrees (ts : List (List (List Int))) : List Int := (ts.length : Int) :: ts.flatMap fun t => (t.length : Int) :: t.flatten
def putC : CV → List Int
  | .pages o c => 1 :: (putRow o ++ putRows c)
  | .narrow s u t => 2 :: (putRows s ++ (putRow u ++ putTrees t))
  | .ring o => 3 :: putRow o
  | .bar k t p => 4 :: k :: (putRow t ++ putRows p)
  | .gap a b o => 5 :: a :: b :: putRow o
  | .refusal e c => 6 :: e :: (c.length : Int) :: c.flatten
theorem ownI_appI {nl : Bool} {P : Nat} {H : Heap} {v w : AV} {xs l : List Int} (ho : OwnI nl P H v xs) (hl : IsI w l) (hP : P ≤ H.length) (hn : xs.length + l.length < 2000000000000) :
    ∃ o H', xstep (.app 1 8) [v, w] H = some (o, H') ∧ OwnI nl P H' o (xs ++ l) ∧ (∀ b, b < P → H'[b]? = H[b]?) ∧ H.length ≤ H'.length := by
  obtain ⟨o2, H2, y1, y2, y3, y4, _⟩ := Own.app (bytes := 8) ho (hl.rd.src (P := 0) (H := H)) (by rw [cI_len]; simp) (ones_cI l) hP (by omega)
  refine ⟨o2, H2, y1, ?_, fun b hb => y3 b (by omega) fun e => ?_, y4⟩
  · unfold OwnI
    rw [List.length_append, cI_append]; exact y2
  · have := (Own.blk ho e).1
    omega
set_option maxHeartbeats 1000000 in
theorem w_crow (h : Has A (φ 120) (f120 φ)) {nl : Bool} {P : Nat} {H : Heap} {v w : AV} {xs l : List Int} (ho : OwnI nl P H v xs) (hl : IsI w l) (hP : P ≤ H.length) (hn : xs.length + l.length < 1000000000000) (K : AV → Heap → Prop)
    (hK : ∀ o H', OwnI nl P H' o (xs ++ putRow l) → (∀ b, b < P → H'[b]? = H[b]?) → H.length ≤ H'.length → K o H') : PCall A (φ 120) [v, w] H K := by
  have l1 := hl.len
  obtain ⟨o1, H1, x1, x2, x3, x4, _⟩ := OwnI.app1 ho (l.length : Int) hP (by omega)
  obtain ⟨o2, H2, y1, y2, y3, y4⟩ := ownI_appI x2 hl (by omega) (by simp; omega)
  have hK' := hK o2 H2 (by simpa only [putRow, List.append_assoc, List.singleton_append] using y2) (fun b hb => (y3 b hb).trans (x3 b hb)) (by omega)
  refine pcall_has h rfl ?_
  simp only [b120, f120]
  simp [-List.getD_eq_getElem?_getD, -Int.ofNat_toNat, -getElem?_pos, er120_0, er120_1, l1, x1, y1, resK, resVs, resV, pack]
  exact hK'
theorem putRow_len : ∀ (rs : List (List Int)), rs.length ≤ (rs.flatMap putRow).length
  | [] => Nat.le_refl _
  | r :: rs => by
    have := putRow_len rs
    simp only [List.flatMap_cons, List.length_append, List.length_cons, putRow] at *
    omega
set_option maxHeartbeats 1000000 in
theorem w_crows (h : Has A (φ 121) (f121 φ)) (h2 : Has A (φ 120) (f120 φ)) {nl : Bool} {P : Nat} {H : Heap} {v w : AV} {xs : List Int} {rs : List (List Int)} (ho : OwnI nl P H v xs) (hl : IsRows w rs) (hP : P ≤ H.length) (hn : xs.length + (putRows rs).length < 1000000000000) (K : AV → Heap → Prop)
    (hK : ∀ o H', OwnI nl P H' o (xs ++ putRows rs) → (∀ b, b < P → H'[b]? = H[b]?) → H.length ≤ H'.length → K o H') : PCall A (φ 121) [v, w] H K := by
  have l1 := hl.len
  have hl1 := hl.one
  simp only [putRows, List.length_cons] at hn
  obtain ⟨o1, H1, x1, x2, x3, x4, _⟩ := OwnI.app1 ho (rs.length : Int) hP (by omega)
  have hfl : ∀ i, i ≤ rs.length → ((rs.take i).flatMap putRow).length ≤ (rs.flatMap putRow).length := fun i _ => by
    conv => rhs; rw [← List.take_append_drop i rs]
    rw [List.flatMap_append, List.length_append]; omega
  refine pcall_has h rfl ?_
  simp only [l121_7, b121, f121]
  simp [-List.getD_eq_getElem?_getD, -Int.ofNat_toNat, -getElem?_pos, er121_0, er121_1, er121_2, er121_3, er121_4, er121_5, er121_6, er121_8, l1, hl1, x1]
  refine pc_loopI (fun m st => ∃ (i : Nat) (o p3 p7 : AV) (H' : Heap), i + m = rs.length ∧ OwnI nl P H' o (xs ++ (rs.length : Int) :: (rs.take i).flatMap putRow) ∧ (∀ b, b < P → H'[b]? = H[b]?) ∧ H.length ≤ H'.length ∧ st = ([o, w, .nils, p3, w, .int .i64 rs.length, .int .i64 i, p7], H')) rs.length
    ⟨0, o1, _, _, H1, by simp, by simpa using x2, x3, by omega, rfl⟩ ?_
  rintro m st ⟨i, o, p3, p7, H', hi, ho', hk, hlen, rfl⟩
  by_cases hlt : i < rs.length
  · have hlt' : (i : Int) < rs.length := by omega
    obtain ⟨c, x, a1, a2, a3⟩ := hl.at hlt
    have hfl' := hfl (i + 1) (by omega)
    have htk : (rs.take (i + 1)).flatMap putRow = (rs.take i).flatMap putRow ++ putRow rs[i] := by
      rw [List.take_succ_eq_append_getElem hlt, List.flatMap_append]; simp
    have hll : (putRow rs[i]).length = rs[i].length + 1 := by simp [putRow]
    rw [htk, List.length_append, hll] at hfl'
    have hiw := wrap1 hlt (by
      have := putRow_len rs
      omega)
    simp [-List.getD_eq_getElem?_getD, -Int.ofNat_toNat, -getElem?_pos, er121_0, er121_1, er121_2, er121_3, er121_4, er121_5, er121_6, er121_8, hlt', hlt, a1, a2]
    refine w_crow h2 ho' a3 (by omega) (by simp only [List.length_append, List.length_cons]; omega) _ fun o2 H2 ho2 hk2 hl2 => ?_
    simp only [hid_k]
    simp [-List.getD_eq_getElem?_getD, -Int.ofNat_toNat, -getElem?_pos, er121_0, er121_1, er121_2, er121_3, er121_4, er121_5, er121_6, er121_8, hiw]
    refine next_mk (m - 1) (by omega) ⟨i + 1, o2, _, _, H2, by omega, ?_, fun b hb => (hk2 b hb).trans (hk b hb), by omega, rfl⟩
    rw [htk]; simpa only [List.append_assoc, List.cons_append] using ho2
  · have hlt' : ¬ (i : Int) < rs.length := by omega
    have hie : i = rs.length := by omega
    subst hie
    rw [List.take_length] at ho'
    have hK' := hK o H' (by simpa only [putRows] using ho') hk hlen
    simp [-List.getD_eq_getElem?_getD, -Int.ofNat_toNat, -getElem?_pos, er121_0, er121_1, er121_2, er121_3, er121_4, er121_5, er121_6, er121_8, hlt', resK, resVs, resV, pack]
    exact hK'
end Go.Ai.G
/- Certificates as values: their types, kinds, orders. -/
namespace Go.Ai.G
open Go.Ai
set_option maxRecDepth 100000
set_option linter.unusedSimpArgs false
set_option linter.unusedVariables false
variable {A : AProg} {φ : Nat → Nat}
attribute [local simp ↓] getD_z getD_s hid_k hid_o hid_q hid_v PO_nil PO_none PO_grd PD_nil PD_none PD_grd PDO_N PDO_X PDO_call PDO_calli PDO_callv PSX_N PSX_X PSX_call PSX_calli PSX_callv PSX_inv
  PSX_callp PSX_panic PDO_inv PStep_inv thenC_pan blockC_pan loopC_pan endX_ret endX_norm endX_pan PStep_N PStep_X PStep_call PStep_calli PC_skip PC_lab PC_ret PC_exit PC_reg PC_draw
  PC_seq PC_block PC_loop PC_scope PC_cond thenC_norm thenC_ret thenC_exit blockC_norm blockC_ret blockC_exit loopC_norm loopC_ret loopC_exit endR_ret endR_norm
attribute [local simp] gz PDX_free PDX_eq KI_some n_mki n_tas0 n_tasf PStep_callv resK_none resK_t resK_tt KNO_val KNO_new KNO_ite KNO_map KXO_some KXO_ite KVA_t KVA_f KG_skip KG_tt KG_ff KG_tf KG_ft
  KB_true KB_false KNOD_val KNOD_new KNOD_ite n_mv n_pick n_bin n_eqB n_eqN n_eqS n_un n_conv n_fadd n_faddV n_fld1 n_fldN n_idx n_idxA n_idxV n_idxAV n_ext n_lenS n_lenS0 n_lenV
  n_lenT n_lenA n_min n_max n_build n_mkfn n_slc n_slc0 n_slcV n_slcA n_load1 n_loadN n_load1V n_loadNV n_alloc n_box n_bsl n_mksl n_nilcP n_nilcV n_nilcI n_nilcF x_store x_clear0
  x_clear b_add b_sub b_mul b_eql b_neq b_lss b_leq b_gtr b_geq b_and16 unV ntouch gather hide unhide evalOpd applyOuts int_bne int_beq ite_bool ite_int one_bool cells_bool one_int
  cells_int one_str cells_str one_nilp cells_nilp one_ptr cells_ptr one_nils cells_nils one_sl cells_sl one_nilf cells_nilf one_fn cells_fn one_nili cells_nili one_mp cells_mp
  one_nilm cells_nilm one_iface cells_iface one_vs cells_vs one_vp cells_vp cells_agg Nat.testBit setAt_1 setAt_2 closeds_nil closeds_cons closed_bool closed_int closed_str
  closed_nilp closed_nils closed_nilm closed_nilf closed_nili closed_agg closed_tup closed_vs closed_vp closed_iface closed_fn closeds_cI closeds_cE viewA_closed viewR_closed AV.scal
  AV.scal0 fillA repA part_bool part_int part_str part_nilp part_ptr part_nils part_sl part_nilm part_mp part_nilf part_fn part_nili part_iface part_agg part_vs part_vp viewA_sl1
  vaSl_cells wrap_0 wrap_1 wrap_2 wrap_m1 set_last get_last
theorem er103_0 (φ : Nat → Nat) : r103_0 φ = [
  ⟨0, .N .mv, [.c (.nils)], none, 0⟩,
  ⟨1, .N .mv, [.c (.bool false)], none, 0⟩] := Eq.trans rfl rfl
theorem er103_1 (φ : Nat → Nat) : r103_1 φ = [
  ⟨0, .N .mv, [.n 0], none, 0⟩,
  ⟨1, .N (.tas (φ 93) [.nils, .nils]), [.l 0], none, 0⟩,
  ⟨2, .N .mv, [.l 0], none, 0⟩,
  ⟨3, .N (.ext 0), [.l 0], none, 0⟩,
  ⟨4, .N (.ext 1), [.l 1], none, 0⟩,
  ⟨5, .N (.alloc [.nils, .nils]), [], none, 0⟩,
  ⟨6, .X (.store 2), [.l 0, .l 2], none, 0⟩,
  ⟨7, .N .mv, [.l 2], none, 0⟩] := Eq.trans rfl rfl
theorem er103_2 (φ : Nat → Nat) : r103_2 φ = [
  ⟨0, .N .mv, [.n 4], none, 0⟩] := Eq.trans rfl rfl
theorem er103_3 (φ : Nat → Nat) : r103_3 φ = [
  ⟨0, .N (.fadd 0), [.n 3], none, 0⟩,
  ⟨1, .N .load1, [.l 0], none, 0⟩,
  ⟨2, .call (φ 122), [.l 0], none, 0⟩,
  ⟨3, .N .mv, [.l 0], none, 0⟩,
  ⟨4, .N .mv, [.c (.bool true)], none, 0⟩] := Eq.trans rfl rfl
theorem er103_4 (φ : Nat → Nat) : r103_4 φ = [
  ⟨0, .N .mv, [.n 0], none, 0⟩,
  ⟨1, .N (.tas (φ 89) [.int .i64 0, .int .i64 0, .nils]), [.l 0], none, 0⟩,
  ⟨2, .N .mv, [.l 0], none, 0⟩,
  ⟨3, .N (.ext 0), [.l 0], none, 0⟩,
  ⟨4, .N (.ext 1), [.l 1], none, 0⟩,
  ⟨5, .N (.alloc [.int .i64 0, .int .i64 0, .nils]), [], none, 0⟩,
  ⟨6, .X (.store 3), [.l 0, .l 2], none, 0⟩,
  ⟨7, .N .mv, [.l 2], none, 0⟩] := Eq.trans rfl rfl
theorem er103_5 (φ : Nat → Nat) : r103_5 φ = [
  ⟨0, .N .mv, [.n 6], none, 0⟩] := Eq.trans rfl rfl
theorem er103_6 (φ : Nat → Nat) : r103_6 φ = [
  ⟨0, .N (.fadd 2), [.n 5], none, 0⟩,
  ⟨1, .N .load1, [.l 0], none, 0⟩,
  ⟨2, .call (φ 122), [.l 0], none, 0⟩,
  ⟨3, .N .mv, [.l 0], none, 0⟩,
  ⟨4, .N .mv, [.c (.bool true)], none, 0⟩] := Eq.trans rfl rfl
theorem er103_7 (φ : Nat → Nat) : r103_7 φ = [
  ⟨0, .N .mv, [.c (.nils)], none, 0⟩,
  ⟨1, .N .mv, [.c (.bool false)], none, 0⟩] := Eq.trans rfl rfl
theorem er98_0 (φ : Nat → Nat) : r98_0 φ = [
  ⟨0, .N .box, [.n 0], none, 0⟩,
  ⟨1, .N .mv, [.c (.int .i64 0)], none, 0⟩] := Eq.trans rfl rfl
theorem er98_1 (φ : Nat → Nat) : r98_1 φ = [
  ⟨0, .N .mv, [.c (.int .i64 3)], none, 0⟩] := Eq.trans rfl rfl
/-- The six types have numbers of their own. -/
structure TyD (φ : Nat → Nat) : Prop where
  nBaGa : φ 87 ≠ φ 89
  nBaNa : φ 87 ≠ φ 91
  nBaPa : φ 87 ≠ φ 93
  nBaRe : φ 87 ≠ φ 95
  nBaRi : φ 87 ≠ φ 97
  nGaNa : φ 89 ≠ φ 91
  nGaPa : φ 89 ≠ φ 93
  nGaRe : φ 89 ≠ φ 95
  nGaRi : φ 89 ≠ φ 97
  nNaPa : φ 91 ≠ φ 93
  nNaRe : φ 91 ≠ φ 95
  nNaRi : φ 91 ≠ φ 97
  nPaRe : φ 93 ≠ φ 95
  nPaRi : φ 93 ≠ φ 97
  nReRi : φ 95 ≠ φ 97
theorem TyD.all (t : TyD φ) : φ 87 ≠ φ 89 ∧ φ 87 ≠ φ 91 ∧ φ 87 ≠ φ 93 ∧ φ 87 ≠ φ 95 ∧ φ 87 ≠ φ 97 ∧ φ 89 ≠ φ 87 ∧ φ 89 ≠ φ 91 ∧ φ 89 ≠ φ 93 ∧ φ 89 ≠ φ 95 ∧ φ 89 ≠ φ 97 ∧ φ 91 ≠ φ 87 ∧ φ 91 ≠ φ 89 ∧ φ 91 ≠ φ 93 ∧ φ 91 ≠ φ 95 ∧ φ 91 ≠ φ 97 ∧ φ 93 ≠ φ 87 ∧ φ 93 ≠ φ 89 ∧ φ 93 ≠ φ 91 ∧ φ 93 ≠ φ 95 ∧ φ 93 ≠ φ 97 ∧ φ 95 ≠ φ 87 ∧ φ 95 ≠ φ 89 ∧ φ 95 ≠ φ 91 ∧ φ 95 ≠ φ 93 ∧ φ 95 ≠ φ 97 ∧ φ 97 ≠ φ 87 ∧ φ 97 ≠ φ 89 ∧ φ 97 ≠ φ 91 ∧ φ 97 ≠ φ 93 ∧ φ 97 ≠ φ 95 :=
  ⟨t.nBaGa, t.nBaNa, t.nBaPa, t.nBaRe, t.nBaRi, t.nBaGa.symm, t.nGaNa, t.nGaPa, t.nGaRe, t.nGaRi, t.nBaNa.symm, t.nGaNa.symm, t.nNaPa, t.nNaRe, t.nNaRi, t.nBaPa.symm, t.nGaPa.symm, t.nNaPa.symm, t.nPaRe, t.nPaRi, t.nBaRe.symm, t.nGaRe.symm, t.nNaRe.symm, t.nPaRe.symm, t.nReRi, t.nBaRi.symm, t.nGaRi.symm, t.nNaRi.symm, t.nPaRi.symm, t.nReRi.symm⟩
theorem TyD.allb (t : TyD φ) : (φ 87 == φ 89) = false ∧ (φ 87 == φ 91) = false ∧ (φ 87 == φ 93) = false ∧ (φ 87 == φ 95) = false ∧ (φ 87 == φ 97) = false ∧ (φ 89 == φ 87) = false ∧ (φ 89 == φ 91) = false ∧ (φ 89 == φ 93) = false ∧ (φ 89 == φ 95) = false ∧ (φ 89 == φ 97) = false ∧ (φ 91 == φ 87) = false ∧ (φ 91 == φ 89) = false ∧ (φ 91 == φ 93) = false ∧ (φ 91 == φ 95) = false ∧ (φ 91 == φ 97) = false ∧ (φ 93 == φ 87) = false ∧ (φ 93 == φ 89) = false ∧ (φ 93 == φ 91) = false ∧ (φ 93 == φ 95) = false ∧ (φ 93 == φ 97) = false ∧ (φ 95 == φ 87) = false ∧ (φ 95 == φ 89) = false ∧ (φ 95 == φ 91) = false ∧ (φ 95 == φ 93) = false ∧ (φ 95 == φ 97) = false ∧ (φ 97 == φ 87) = false ∧ (φ 97 == φ 89) = false ∧ (φ 97 == φ 91) = false ∧ (φ 97 == φ 93) = false ∧ (φ 97 == φ 95) = false := by
  have := t.all
  simp [this]
inductive IsCV (φ : Nat → Nat) : AV → CV → Prop
  | pages {x y : AV} {o : List Int} {c : List (List Int)} (hx : IsI x o) (hy : IsRows y c) : IsCV φ (.iface (φ 93) (.agg [x, y])) (.pages o c)
  | narrow {x y : AV} {s : List (List Int)} {u : List Int} (hx : IsRows x s) (hy : IsI y u) (t : List (List (List Int))) (ht : ∀ a ∈ t, ∀ b ∈ a, b.length = 3) : IsCV φ (.iface (φ 91) (.agg [x, y, rT t])) (.narrow s u t)
  | ring {x : AV} {o : List Int} (hx : IsI x o) : IsCV φ (.iface (φ 97) (.agg [x])) (.ring o)
  | bar (k : Int) {x y : AV} {t : List Int} {p : List (List Int)} (hx : IsI x t) (hy : IsRows y p) : IsCV φ (.iface (φ 87) (.agg [.int .i64 k, x, y])) (.bar k t p)
  | gap (a b : Int) {x : AV} {o : List Int} (hx : IsI x o) : IsCV φ (.iface (φ 89) (.agg [.int .i64 a, .int .i64 b, x])) (.gap a b o)
  | refusal (e : Int) (c : List (List Int)) (hc : ∀ b ∈ c, b.length = 6) : IsCV φ (.iface (φ 95) (.agg [.int .i64 e, rC 6 c])) (.refusal e c)
theorem isRows_rR (ps : List (List Int)) : IsRows (rR ps) ps := by
  by_cases h : ps = []
  · subst h; exact .inl ⟨rfl, rfl⟩
  · have : ¬ ps.length = 0 := fun e => h (List.length_eq_zero_iff.1 e)
    refine .inr ⟨ps.map vI, by simp [rR, rv, this], by simp, ?_, fun j x zs h1 h2 => ?_⟩
    · rw [closeds_iff]
      intro i x hx
      rw [List.getElem?_map, Option.map_eq_some_iff] at hx
      obtain ⟨z, _, rfl⟩ := hx
      exact closeds_cI z
    · rw [List.getElem?_map, h2] at h1
      cases h1
      exact isI_v zs
/-- The trees have nodes of three, the cuts are of six. -/
def okC : CV → Prop
  | .narrow _ _ t => ∀ a ∈ t, ∀ b ∈ a, b.length = 3
  | .refusal _ c => ∀ b ∈ c, b.length = 6
  | _ => True
structure KH (A : AProg) (φ : Nat → Nat) : Prop where
  kBar : Has A (φ 88) (f88 φ)
  kGap : Has A (φ 90) (f90 φ)
  kNarrow : Has A (φ 92) (f92 φ)
  kPages : Has A (φ 94) (f94 φ)
  kRefusal : Has A (φ 96) (f96 φ)
  kRing : Has A (φ 98) (f98 φ)
theorem IsRows.cells {v : AV} {rows : List (List Int)} (h : IsRows v rows) : v.cells = [v] := by
  rcases h with ⟨rfl, rfl⟩ | ⟨l, rfl, _⟩ <;> rfl
theorem rT_one (t : List (List (List Int))) : (rT t).one = true := by unfold rT rv; split <;> rfl
theorem rT_cells (t : List (List (List Int))) : (rT t).cells = [rT t] := by unfold rT rv; split <;> rfl
theorem rC_one (k : Nat) (t : List (List Int)) : (rC k t).one = true := by unfold rC rv; split <;> rfl
theorem rC_cells (k : Nat) (t : List (List Int)) : (rC k t).cells = [rC k t] := by unfold rC rv; split <;> rfl
set_option maxHeartbeats 1000000 in
theorem w_OrderNo (td : TyD φ) (h : Has A (φ 103) (f103 φ)) {t : TypeId} {x : AV} (h1 : t ≠ φ 93) (h2 : t ≠ φ 89) : PVal A (φ 103) [.iface t x] (.tup [.nils, .bool false]) := by
  refine pval_has h rfl ?_
  simp only [b103, f103]
  simp [-List.getD_eq_getElem?_getD, -Int.ofNat_toNat, -getElem?_pos, er103_0, er103_1, er103_2, er103_3, er103_4, er103_5, er103_6, er103_7, n_tas, h1, h2, setAt, get_at, get_at0, set_at, set_at0, resK, resVs, resV, pack]
set_option maxHeartbeats 1000000 in
theorem w_OrderGap (td : TyD φ) (h : Has A (φ 103) (f103 φ)) (hcl : Has A (φ 122) (f122 φ)) (a b : Int) {x : AV} {o : List Int} (hx : IsI x o) (hn : o.length < 1000000000000) : PVal A (φ 103) [.iface (φ 89) (.agg [.int .i64 a, .int .i64 b, x])] (.tup [x, .bool true]) := by
  have ta := td.all
  have x1 := hx.one
  have x2 := hx.cells
  refine pval_has h rfl ?_
  simp only [b103, f103]
  simp [-List.getD_eq_getElem?_getD, -Int.ofNat_toNat, -getElem?_pos, er103_0, er103_1, er103_2, er103_3, er103_4, er103_5, er103_6, er103_7, n_tas, ta, setAt, x1, x2, get_at, get_at0, set_at, set_at0]
  refine w_CloneV hcl hx hn _ fun ov H1 bs hs hb hk k1 l1 o1 o2 o3 => ?_
  simp only [hid_k]
  have hvr : viewR H1 (.tup [ov, .bool true]) = some (.tup [x, .bool true]) :=
    (SeesL.tup (SeesL.cons hs (SeesL.cons ((seesF_closed rfl).mono (e := 2) (by omega)) ((seesL_nil _).mono (by omega)) (by omega)) (by omega))).vr (by omega)
  simp [-List.getD_eq_getElem?_getD, -Int.ofNat_toNat, -getElem?_pos, er103_0, er103_1, er103_2, er103_3, er103_4, er103_5, er103_6, er103_7, o1, o2, o3, resK, resVs, resV, pack]
  exact hvr
end Go.Ai.G
/- cert.Ints: a certificate as numbers. -/
namespace Go.Ai.G
open Go.Ai
set_option maxRecDepth 100000
set_option linter.unusedSimpArgs false
set_option linter.unusedVariables false
variable {A : AProg} {φ : Nat → Nat}
attribute [local simp ↓] getD_z getD_s hid_k hid_o hid_q hid_v PO_nil PO_none PO_grd PD_nil PD_none PD_grd PDO_N PDO_X PDO_call PDO_calli PDO_callv PSX_N PSX_X PSX_call PSX_calli PSX_callv PSX_inv
  PSX_callp PSX_panic PDO_inv PStep_inv thenC_pan blockC_pan loopC_pan endX_ret endX_norm endX_pan PStep_N PStep_X PStep_call PStep_calli PC_skip PC_lab PC_ret PC_exit PC_reg PC_draw
  PC_seq PC_block PC_loop PC_scope PC_cond thenC_norm thenC_ret thenC_exit blockC_norm blockC_ret blockC_exit loopC_norm loopC_ret loopC_exit endR_ret endR_norm
attribute [local simp] gz PDX_free PDX_eq KI_some n_mki n_tas0 n_tasf PStep_callv resK_none resK_t resK_tt KNO_val KNO_new KNO_ite KNO_map KXO_some KXO_ite KVA_t KVA_f KG_skip KG_tt KG_ff KG_tf KG_ft
  KB_true KB_false KNOD_val KNOD_new KNOD_ite n_mv n_pick n_bin n_eqB n_eqN n_eqS n_un n_conv n_fadd n_faddV n_fld1 n_fldN n_idx n_idxA n_idxV n_idxAV n_ext n_lenS n_lenS0 n_lenV
  n_lenT n_lenA n_min n_max n_build n_mkfn n_slc n_slc0 n_slcV n_slcA n_load1 n_loadN n_load1V n_loadNV n_alloc n_box n_bsl n_mksl n_nilcP n_nilcV n_nilcI n_nilcF x_store x_clear0
  x_clear b_add b_sub b_mul b_eql b_neq b_lss b_leq b_gtr b_geq b_and16 unV ntouch gather hide unhide evalOpd applyOuts int_bne int_beq ite_bool ite_int one_bool cells_bool one_int
  cells_int one_str cells_str one_nilp cells_nilp one_ptr cells_ptr one_nils cells_nils one_sl cells_sl one_nilf cells_nilf one_fn cells_fn one_nili cells_nili one_mp cells_mp
  one_nilm cells_nilm one_iface cells_iface one_vs cells_vs one_vp cells_vp cells_agg Nat.testBit setAt_1 setAt_2 closeds_nil closeds_cons closed_bool closed_int closed_str
  closed_nilp closed_nils closed_nilm closed_nilf closed_nili closed_agg closed_tup closed_vs closed_vp closed_iface closed_fn closeds_cI closeds_cE viewA_closed viewR_closed AV.scal
  AV.scal0 fillA repA part_bool part_int part_str part_nilp part_ptr part_nils part_sl part_nilm part_mp part_nilf part_fn part_nili part_iface part_agg part_vs part_vp viewA_sl1
  vaSl_cells wrap_0 wrap_1 wrap_2 wrap_m1 set_last get_last
theorem er99_0 (φ : Nat → Nat) : r99_0 φ = [
  ⟨0, .N .mv, [.c (.nils)], none, 0⟩] := Eq.trans rfl rfl
theorem er99_1 (φ : Nat → Nat) : r99_1 φ = [
  ⟨0, .N .mv, [.n 0], none, 0⟩] := Eq.trans rfl rfl
theorem er99_2 (φ : Nat → Nat) : r99_2 φ = [
  ⟨0, .N (.tas (φ 93) [.nils, .nils]), [.n 13], none, 0⟩,
  ⟨1, .N (.ext 1), [.l 0], none, 0⟩,
  ⟨2, .N (.ext 0), [.l 1], none, 0⟩] := Eq.trans rfl rfl
theorem er99_3 (φ : Nat → Nat) : r99_3 φ = [
  ⟨0, .N (.alloc [.nils, .nils]), [], none, 0⟩,
  ⟨1, .X (.store 2), [.l 0, .n 15], none, 0⟩] := Eq.trans rfl rfl
theorem er99_4 (φ : Nat → Nat) : r99_4 φ = [
  ⟨0, .N (.bsl [.int .i64 0] 1 1 [(0, 1)]), [.c (.int .i64 1)], none, 0⟩,
  ⟨1, .N (.fadd 0), [.n 2], none, 0⟩,
  ⟨2, .N .load1, [.l 0], none, 2⟩,
  ⟨4, .N (.fadd 1), [.n 2], none, 0⟩,
  ⟨5, .N .load1, [.l 0], none, 8⟩,
  ⟨3, .call (φ 120), [.l 4, .l 2], none, 7⟩,
  ⟨6, .call (φ 121), [.l 0, .l 1], none, 63⟩,
  ⟨7, .N .mv, [.l 0], none, 127⟩] := Eq.trans rfl rfl
theorem er99_5 (φ : Nat → Nat) : r99_5 φ = [
  ⟨0, .N (.tas (φ 91) [.nils, .nils, .nils]), [.n 13], none, 0⟩,
  ⟨1, .N (.ext 1), [.l 0], none, 0⟩,
  ⟨2, .N (.ext 0), [.l 1], none, 0⟩] := Eq.trans rfl rfl
theorem er99_6 (φ : Nat → Nat) : r99_6 φ = [
  ⟨0, .N (.alloc [.nils, .nils, .nils]), [], none, 0⟩,
  ⟨1, .X (.store 3), [.l 0, .n 17], none, 0⟩] := Eq.trans rfl rfl
theorem er99_7 (φ : Nat → Nat) : r99_7 φ = [
  ⟨0, .N (.bsl [.int .i64 0] 1 1 [(0, 1)]), [.c (.int .i64 2)], none, 0⟩,
  ⟨1, .N (.fadd 0), [.n 3], none, 0⟩,
  ⟨2, .N (.fadd 0), [.l 0], none, 2⟩,
  ⟨3, .N .load1, [.l 0], none, 6⟩,
  ⟨5, .N (.fadd 0), [.n 3], none, 0⟩,
  ⟨6, .N (.fadd 1), [.l 0], none, 16⟩,
  ⟨7, .N .load1, [.l 0], none, 48⟩,
  ⟨4, .call (φ 121), [.l 6, .l 3], none, 15⟩,
  ⟨8, .call (φ 120), [.l 0, .l 1], none, 255⟩,
  ⟨9, .N .mv, [.l 0], none, 511⟩] := Eq.trans rfl rfl
theorem er99_8 (φ : Nat → Nat) : r99_8 φ = [
  ⟨0, .N .mv, [.n 4], none, 0⟩,
  ⟨1, .N (.fadd 2), [.n 3], none, 0⟩,
  ⟨2, .N .load1, [.l 0], none, 0⟩,
  ⟨3, .N .lenS, [.l 0], none, 0⟩,
  ⟨4, .N (.bsl [.int .i64 0] 1 1 [(0, 1)]), [.l 0], none, 0⟩,
  ⟨5, .X (.app 1 8), [.l 4, .l 0], none, 0⟩,
  ⟨6, .N .mv, [.l 0], none, 0⟩] := Eq.trans rfl rfl
theorem er99_9 (φ : Nat → Nat) : r99_9 φ = [
  ⟨0, .N (.fadd 2), [.n 3], none, 0⟩,
  ⟨1, .N .load1, [.l 0], none, 0⟩,
  ⟨2, .N .lenS, [.l 0], none, 0⟩,
  ⟨3, .N .mv, [.c (.int .i64 0)], none, 0⟩] := Eq.trans rfl rfl
theorem er99_10 (φ : Nat → Nat) : r99_10 φ = [
  ⟨0, .N (.bin .lss), [.n 20, .n 19], none, 0⟩] := Eq.trans rfl rfl
theorem er99_11 (φ : Nat → Nat) : r99_11 φ = [
  ⟨0, .N (.idx 1), [.n 18, .n 20], none, 0⟩,
  ⟨1, .N .load1, [.l 0], none, 0⟩,
  ⟨2, .N .mv, [.l 0], none, 0⟩] := Eq.trans rfl rfl
theorem er99_12 (φ : Nat → Nat) : r99_12 φ = [
  ⟨0, .N .mv, [.n 4], none, 0⟩,
  ⟨1, .N .mv, [.n 5], none, 0⟩,
  ⟨2, .N .lenS, [.l 0], none, 0⟩,
  ⟨3, .N (.bsl [.int .i64 0] 1 1 [(0, 1)]), [.l 0], none, 0⟩,
  ⟨4, .X (.app 1 8), [.l 3, .l 0], none, 0⟩,
  ⟨5, .N .mv, [.l 0], none, 0⟩] := Eq.trans rfl rfl
theorem er99_13 (φ : Nat → Nat) : r99_13 φ = [
  ⟨0, .N .mv, [.n 5], none, 0⟩,
  ⟨1, .N .lenS, [.l 0], none, 0⟩,
  ⟨2, .N .mv, [.c (.int .i64 0)], none, 0⟩] := Eq.trans rfl rfl
theorem er99_14 (φ : Nat → Nat) : r99_14 φ = [
  ⟨0, .N (.bin .lss), [.n 24, .n 23], none, 0⟩] := Eq.trans rfl rfl
theorem er99_15 (φ : Nat → Nat) : r99_15 φ = [
  ⟨0, .N (.idx 3), [.n 22, .n 24], none, 0⟩,
  ⟨1, .N (.loadN 3), [.l 0], none, 0⟩,
  ⟨2, .N (.alloc [.int .i64 0, .int .i64 0, .int .i64 0]), [], none, 0⟩,
  ⟨3, .X (.store 3), [.l 0, .l 1], none, 0⟩] := Eq.trans rfl rfl
theorem er99_16 (φ : Nat → Nat) : r99_16 φ = [
  ⟨0, .N .mv, [.n 4], none, 0⟩,
  ⟨1, .N (.fadd 0), [.n 6], none, 0⟩,
  ⟨2, .N .load1, [.l 0], none, 0⟩,
  ⟨3, .N (.fadd 1), [.n 6], none, 0⟩,
  ⟨4, .N .load1, [.l 0], none, 0⟩,
  ⟨5, .N (.fadd 2), [.n 6], none, 0⟩,
  ⟨6, .N .load1, [.l 0], none, 0⟩,
  ⟨7, .N (.bsl [.int .i64 0] 3 1 [(0, 1), (1, 1), (2, 1)]), [.l 4, .l 2, .l 0], none, 0⟩,
  ⟨8, .X (.app 1 8), [.l 7, .l 0], none, 0⟩,
  ⟨9, .N .mv, [.l 0], none, 0⟩] := Eq.trans rfl rfl
theorem er99_17 (φ : Nat → Nat) : r99_17 φ = [
  ⟨0, .N (.bin .add), [.n 24, .c (.int .i64 1)], none, 0⟩,
  ⟨1, .N .mv, [.l 0], none, 0⟩] := Eq.trans rfl rfl
theorem er99_19 (φ : Nat → Nat) : r99_19 φ = [
  ⟨0, .N (.bin .add), [.n 20, .c (.int .i64 1)], none, 0⟩,
  ⟨1, .N .mv, [.l 0], none, 0⟩] := Eq.trans rfl rfl
theorem er99_21 (φ : Nat → Nat) : r99_21 φ = [
  ⟨0, .N .mv, [.n 4], none, 0⟩,
  ⟨1, .N .mv, [.l 0], none, 0⟩] := Eq.trans rfl rfl
theorem er99_22 (φ : Nat → Nat) : r99_22 φ = [
  ⟨0, .N (.tas (φ 97) [.nils]), [.n 13], none, 0⟩,
  ⟨1, .N (.ext 1), [.l 0], none, 0⟩,
  ⟨2, .N (.ext 0), [.l 1], none, 0⟩] := Eq.trans rfl rfl
theorem er99_23 (φ : Nat → Nat) : r99_23 φ = [
  ⟨0, .N (.alloc [.nils]), [], none, 0⟩,
  ⟨1, .X (.store 1), [.l 0, .n 27], none, 0⟩] := Eq.trans rfl rfl
theorem er99_24 (φ : Nat → Nat) : r99_24 φ = [
  ⟨0, .N (.bsl [.int .i64 0] 1 1 [(0, 1)]), [.c (.int .i64 3)], none, 0⟩,
  ⟨1, .N (.fadd 0), [.n 7], none, 0⟩,
  ⟨2, .N .load1, [.l 0], none, 0⟩,
  ⟨3, .call (φ 120), [.l 2, .l 0], none, 0⟩,
  ⟨4, .N .mv, [.l 0], none, 0⟩] := Eq.trans rfl rfl
theorem er99_25 (φ : Nat → Nat) : r99_25 φ = [
  ⟨0, .N (.tas (φ 87) [.int .i64 0, .nils, .nils]), [.n 13], none, 0⟩,
  ⟨1, .N (.ext 1), [.l 0], none, 0⟩,
  ⟨2, .N (.ext 0), [.l 1], none, 0⟩] := Eq.trans rfl rfl
theorem er99_26 (φ : Nat → Nat) : r99_26 φ = [
  ⟨0, .N (.alloc [.int .i64 0, .nils, .nils]), [], none, 0⟩,
  ⟨1, .X (.store 3), [.l 0, .n 29], none, 0⟩] := Eq.trans rfl rfl
theorem er99_27 (φ : Nat → Nat) : r99_27 φ = [
  ⟨0, .N (.fadd 0), [.n 8], none, 0⟩,
  ⟨1, .N (.fadd 0), [.l 0], none, 1⟩,
  ⟨2, .N .load1, [.l 0], none, 3⟩,
  ⟨3, .N (.bsl [.int .i64 0] 2 1 [(0, 1), (1, 1)]), [.c (.int .i64 4), .l 0], none, 7⟩,
  ⟨4, .N (.fadd 0), [.n 8], none, 0⟩,
  ⟨5, .N (.fadd 1), [.l 0], none, 16⟩,
  ⟨6, .N .load1, [.l 0], none, 48⟩,
  ⟨8, .N (.fadd 0), [.n 8], none, 0⟩,
  ⟨9, .N (.fadd 2), [.l 0], none, 128⟩,
  ⟨10, .N .load1, [.l 0], none, 384⟩,
  ⟨7, .call (φ 120), [.l 6, .l 3], none, 127⟩,
  ⟨11, .call (φ 121), [.l 0, .l 1], none, 2047⟩,
  ⟨12, .N .mv, [.l 0], none, 4095⟩] := Eq.trans rfl rfl
theorem er99_28 (φ : Nat → Nat) : r99_28 φ = [
  ⟨0, .N (.tas (φ 89) [.int .i64 0, .int .i64 0, .nils]), [.n 13], none, 0⟩,
  ⟨1, .N (.ext 1), [.l 0], none, 0⟩,
  ⟨2, .N (.ext 0), [.l 1], none, 0⟩] := Eq.trans rfl rfl
theorem er99_29 (φ : Nat → Nat) : r99_29 φ = [
  ⟨0, .N (.alloc [.int .i64 0, .int .i64 0, .nils]), [], none, 0⟩,
  ⟨1, .X (.store 3), [.l 0, .n 31], none, 0⟩] := Eq.trans rfl rfl
theorem er99_30 (φ : Nat → Nat) : r99_30 φ = [
  ⟨0, .N (.fadd 0), [.n 9], none, 0⟩,
  ⟨1, .N .load1, [.l 0], none, 0⟩,
  ⟨2, .N (.fadd 1), [.n 9], none, 0⟩,
  ⟨3, .N .load1, [.l 0], none, 0⟩,
  ⟨4, .N (.bsl [.int .i64 0] 3 1 [(0, 1), (1, 1), (2, 1)]), [.c (.int .i64 5), .l 2, .l 0], none, 0⟩,
  ⟨5, .N (.fadd 2), [.n 9], none, 0⟩,
  ⟨6, .N .load1, [.l 0], none, 0⟩,
  ⟨7, .call (φ 120), [.l 2, .l 0], none, 0⟩,
  ⟨8, .N .mv, [.l 0], none, 0⟩] := Eq.trans rfl rfl
theorem er99_31 (φ : Nat → Nat) : r99_31 φ = [
  ⟨0, .N (.tas (φ 95) [.int .i64 0, .nils]), [.n 13], none, 0⟩,
  ⟨1, .N (.ext 1), [.l 0], none, 0⟩,
  ⟨2, .N (.ext 0), [.l 1], none, 0⟩] := Eq.trans rfl rfl
theorem er99_32 (φ : Nat → Nat) : r99_32 φ = [
  ⟨0, .N (.alloc [.int .i64 0, .nils]), [], none, 0⟩,
  ⟨1, .X (.store 2), [.l 0, .n 33], none, 0⟩] := Eq.trans rfl rfl
theorem er99_33 (φ : Nat → Nat) : r99_33 φ = [
  ⟨0, .N (.fadd 0), [.n 10], none, 0⟩,
  ⟨1, .N (.fadd 0), [.l 0], none, 0⟩,
  ⟨2, .N .load1, [.l 0], none, 0⟩,
  ⟨3, .N (.fadd 0), [.n 10], none, 0⟩,
  ⟨4, .N (.fadd 1), [.l 0], none, 0⟩,
  ⟨5, .N .load1, [.l 0], none, 0⟩,
  ⟨6, .N .lenS, [.l 0], none, 0⟩,
  ⟨7, .N (.bsl [.int .i64 0] 3 1 [(0, 1), (1, 1), (2, 1)]), [.c (.int .i64 6), .l 4, .l 0], none, 0⟩,
  ⟨8, .N .mv, [.l 0], none, 0⟩] := Eq.trans rfl rfl
theorem er99_34 (φ : Nat → Nat) : r99_34 φ = [
  ⟨0, .N (.fadd 0), [.n 10], none, 0⟩,
  ⟨1, .N (.fadd 1), [.l 0], none, 0⟩,
  ⟨2, .N .load1, [.l 0], none, 0⟩,
  ⟨3, .N .lenS, [.l 0], none, 0⟩,
  ⟨4, .N .mv, [.c (.int .i64 0)], none, 0⟩] := Eq.trans rfl rfl
theorem er99_35 (φ : Nat → Nat) : r99_35 φ = [
  ⟨0, .N (.bin .lss), [.n 36, .n 35], none, 0⟩] := Eq.trans rfl rfl
theorem er99_36 (φ : Nat → Nat) : r99_36 φ = [
  ⟨0, .N (.idx 6), [.n 34, .n 36], none, 0⟩,
  ⟨1, .N (.loadN 6), [.l 0], none, 0⟩,
  ⟨2, .N (.alloc [.int .i64 0, .int .i64 0, .int .i64 0, .int .i64 0, .int .i64 0, .int .i64 0]), [], none, 0⟩,
  ⟨3, .X (.store 6), [.l 0, .l 1], none, 0⟩] := Eq.trans rfl rfl
theorem er99_37 (φ : Nat → Nat) : r99_37 φ = [
  ⟨0, .N .mv, [.n 11], none, 0⟩,
  ⟨1, .N (.fadd 0), [.n 12], none, 0⟩,
  ⟨2, .N .load1, [.l 0], none, 0⟩,
  ⟨3, .N (.fadd 1), [.n 12], none, 0⟩,
  ⟨4, .N .load1, [.l 0], none, 0⟩,
  ⟨5, .N (.fadd 2), [.n 12], none, 0⟩,
  ⟨6, .N .load1, [.l 0], none, 0⟩,
  ⟨7, .N (.fadd 3), [.n 12], none, 0⟩,
  ⟨8, .N .load1, [.l 0], none, 0⟩,
  ⟨9, .N (.fadd 4), [.n 12], none, 0⟩,
  ⟨10, .N .load1, [.l 0], none, 0⟩,
  ⟨11, .N (.fadd 5), [.n 12], none, 0⟩,
  ⟨12, .N .load1, [.l 0], none, 0⟩,
  ⟨13, .N (.bsl [.int .i64 0] 6 1 [(0, 1), (1, 1), (2, 1), (3, 1), (4, 1), (5, 1)]), [.l 10, .l 8, .l 6, .l 4, .l 2, .l 0], none, 0⟩,
  ⟨14, .X (.app 1 8), [.l 13, .l 0], none, 0⟩,
  ⟨15, .N .mv, [.l 0], none, 0⟩] := Eq.trans rfl rfl
theorem er99_38 (φ : Nat → Nat) : r99_38 φ = [
  ⟨0, .N (.bin .add), [.n 36, .c (.int .i64 1)], none, 0⟩,
  ⟨1, .N .mv, [.l 0], none, 0⟩] := Eq.trans rfl rfl
theorem er99_40 (φ : Nat → Nat) : r99_40 φ = [
  ⟨0, .N .mv, [.n 11], none, 0⟩,
  ⟨1, .N .mv, [.l 0], none, 0⟩] := Eq.trans rfl rfl
theorem er99_41 (φ : Nat → Nat) : r99_41 φ = [
  ⟨0, .N .mv, [.c (.nils)], none, 0⟩] := Eq.trans rfl rfl
theorem own_lit (nl : Bool) (P : Nat) (H : Heap) (hP : P ≤ H.length) (xs : List Int) (h0 : xs ≠ []) (cl : List AV) (hc : cl = cI xs) (n : Nat) (hn : n = xs.length) : OwnI nl P (H ++ [.cells 0 false cl]) (.sl H.length 0 0 n 1 n true) xs := by
  subst hc hn
  have hl : 0 < xs.length := List.length_pos_iff.2 h0
  exact .inr ⟨hl, H.length, 0, true, rfl, hP, by rw [cI_len]; omega, get_at0 _ _⟩
set_option maxHeartbeats 4000000 in
theorem w_IntsPages (td : TyD φ) (h : Has A (φ 99) (f99 φ)) (h1 : Has A (φ 120) (f120 φ)) (h2 : Has A (φ 121) (f121 φ)) {x y : AV} {o : List Int} {c : List (List Int)} (hx : IsI x o) (hy : IsRows y c) (hn : (putC (.pages o c)).length < 100000000000) :
    PVal A (φ 99) [.iface (φ 93) (.agg [x, y])] (vI (putC (.pages o c))) := by
  have x1 := hx.one
  have x2 := hx.cells
  have y1 := hy.one
  have y2 := hy.cells
  simp only [putC, putRow, List.length_cons, List.length_append] at hn
  refine pval_has h rfl ?_
  simp only [l99_18, l99_20, l99_39, b99, f99]
  simp [-List.getD_eq_getElem?_getD, -Int.ofNat_toNat, -getElem?_pos, er99_0, er99_1, er99_2, er99_3, er99_4, er99_5, er99_6, er99_7, er99_8, er99_9, er99_10, er99_11, er99_12, er99_13, er99_14, er99_15, er99_16, er99_17, er99_19, er99_21, er99_22, er99_23, er99_24, er99_25, er99_26, er99_27, er99_28, er99_29, er99_30, er99_31, er99_32, er99_33, er99_34, er99_35, er99_36, er99_37, er99_38, er99_40, er99_41, n_tas, x1, x2, y1, y2, setAt]
  refine w_crow h1 (own_lit false 1 [_] (by simp) [1] (by simp) _ rfl 1 rfl) hx (by simp) (by simp; omega) _ fun o1 H1 ho k1 l1 => ?_
  simp only [hid_k]
  refine ⟨fun b hb => k1 b (by simp at hb; omega), ?_⟩
  simp [-List.getD_eq_getElem?_getD, -Int.ofNat_toNat, -getElem?_pos, er99_0, er99_1, er99_2, er99_3, er99_4, er99_5, er99_6, er99_7, er99_8, er99_9, er99_10, er99_11, er99_12, er99_13, er99_14, er99_15, er99_16, er99_17, er99_19, er99_21, er99_22, er99_23, er99_24, er99_25, er99_26, er99_27, er99_28, er99_29, er99_30, er99_31, er99_32, er99_33, er99_34, er99_35, er99_36, er99_37, er99_38, er99_40, er99_41]
  simp only [List.length_append, List.length_cons, List.length_nil] at l1
  refine w_crows h2 h1 ho hy (by omega) (by simp only [List.length_append, List.length_cons, putRow, List.length_nil]; omega) _ fun o2 H2 ho2 k2 l2 => ?_
  simp only [hid_k]
  have hv := ho2.view
  simp only [rv_false] at hv
  have q1 := Own.one ho2
  have q2 := Own.cells ho2
  have q3 := Own.part ho2
  simp [-List.getD_eq_getElem?_getD, -Int.ofNat_toNat, -getElem?_pos, er99_0, er99_1, er99_2, er99_3, er99_4, er99_5, er99_6, er99_7, er99_8, er99_9, er99_10, er99_11, er99_12, er99_13, er99_14, er99_15, er99_16, er99_17, er99_19, er99_21, er99_22, er99_23, er99_24, er99_25, er99_26, er99_27, er99_28, er99_29, er99_30, er99_31, er99_32, er99_33, er99_34, er99_35, er99_36, er99_37, er99_38, er99_40, er99_41, q1, q2, q3, resK, resVs, resV, pack]
  exact hv
set_option maxHeartbeats 4000000 in
theorem w_IntsRing (td : TyD φ) (h : Has A (φ 99) (f99 φ)) (h1 : Has A (φ 120) (f120 φ)) (h2 : Has A (φ 121) (f121 φ)) {x : AV} {o : List Int} (hx : IsI x o) (hn : (putC (.ring o)).length < 100000000000) :
    PVal A (φ 99) [.iface (φ 97) (.agg [x])] (vI (putC (.ring o))) := by
  have ta := td.all
  have x1 := hx.one
  have x2 := hx.cells
  simp only [putC, putRow, List.length_cons, List.length_append] at hn
  refine pval_has h rfl ?_
  simp only [l99_18, l99_20, l99_39, b99, f99]
  simp [-List.getD_eq_getElem?_getD, -Int.ofNat_toNat, -getElem?_pos, er99_0, er99_1, er99_2, er99_3, er99_4, er99_5, er99_6, er99_7, er99_8, er99_9, er99_10, er99_11, er99_12, er99_13, er99_14, er99_15, er99_16, er99_17, er99_19, er99_21, er99_22, er99_23, er99_24, er99_25, er99_26, er99_27, er99_28, er99_29, er99_30, er99_31, er99_32, er99_33, er99_34, er99_35, er99_36, er99_37, er99_38, er99_40, er99_41, n_tas, ta, x1, x2, setAt]
  refine w_crow h1 (own_lit false 1 [_] (by simp) [3] (by simp) _ rfl 1 rfl) hx (by simp) (by simp; omega) _ fun o1 H1 ho k1 l1 => ?_
  simp only [hid_k]
  have hv := ho.view
  simp only [rv_false] at hv
  have q1 := Own.one ho
  have q2 := Own.cells ho
  have q3 := Own.part ho
  simp [-List.getD_eq_getElem?_getD, -Int.ofNat_toNat, -getElem?_pos, er99_0, er99_1, er99_2, er99_3, er99_4, er99_5, er99_6, er99_7, er99_8, er99_9, er99_10, er99_11, er99_12, er99_13, er99_14, er99_15, er99_16, er99_17, er99_19, er99_21, er99_22, er99_23, er99_24, er99_25, er99_26, er99_27, er99_28, er99_29, er99_30, er99_31, er99_32, er99_33, er99_34, er99_35, er99_36, er99_37, er99_38, er99_40, er99_41, q1, q2, q3, resK, resVs, resV, pack]
  exact hv
set_option maxHeartbeats 4000000 in
theorem w_IntsGap (td : TyD φ) (h : Has A (φ 99) (f99 φ)) (h1 : Has A (φ 120) (f120 φ)) (h2 : Has A (φ 121) (f121 φ)) (a b : Int) {x : AV} {o : List Int} (hx : IsI x o) (hn : (putC (.gap a b o)).length < 100000000000) :
    PVal A (φ 99) [.iface (φ 89) (.agg [.int .i64 a, .int .i64 b, x])] (vI (putC (.gap a b o))) := by
  have ta := td.all
  have x1 := hx.one
  have x2 := hx.cells
  simp only [putC, putRow, List.length_cons, List.length_append] at hn
  refine pval_has h rfl ?_
  simp only [l99_18, l99_20, l99_39, b99, f99]
  simp [-List.getD_eq_getElem?_getD, -Int.ofNat_toNat, -getElem?_pos, er99_0, er99_1, er99_2, er99_3, er99_4, er99_5, er99_6, er99_7, er99_8, er99_9, er99_10, er99_11, er99_12, er99_13, er99_14, er99_15, er99_16, er99_17, er99_19, er99_21, er99_22, er99_23, er99_24, er99_25, er99_26, er99_27, er99_28, er99_29, er99_30, er99_31, er99_32, er99_33, er99_34, er99_35, er99_36, er99_37, er99_38, er99_40, er99_41, n_tas, ta, x1, x2, setAt]
  refine w_crow h1 (own_lit false 1 [_] (by simp) [5, a, b] (by simp) _ rfl 3 rfl) hx (by simp) (by simp; omega) _ fun o1 H1 ho k1 l1 => ?_
  simp only [hid_k]
  have hv := ho.view
  simp only [rv_false] at hv
  have q1 := Own.one ho
  have q2 := Own.cells ho
  have q3 := Own.part ho
  simp [-List.getD_eq_getElem?_getD, -Int.ofNat_toNat, -getElem?_pos, er99_0, er99_1, er99_2, er99_3, er99_4, er99_5, er99_6, er99_7, er99_8, er99_9, er99_10, er99_11, er99_12, er99_13, er99_14, er99_15, er99_16, er99_17, er99_19, er99_21, er99_22, er99_23, er99_24, er99_25, er99_26, er99_27, er99_28, er99_29, er99_30, er99_31, er99_32, er99_33, er99_34, er99_35, er99_36, er99_37, er99_38, er99_40, er99_41, q1, q2, q3, resK, resVs, resV, pack]
  exact hv
set_option maxHeartbeats 4000000 in
theorem w_IntsBar (td : TyD φ) (h : Has A (φ 99) (f99 φ)) (h1 : Has A (φ 120) (f120 φ)) (h2 : Has A (φ 121) (f121 φ)) (k : Int) {x y : AV} {o : List Int} {c : List (List Int)} (hx : IsI x o) (hy : IsRows y c) (hn : (putC (.bar k o c)).length < 100000000000) :
    PVal A (φ 99) [.iface (φ 87) (.agg [.int .i64 k, x, y])] (vI (putC (.bar k o c))) := by
  have ta := td.all
  have x1 := hx.one
  have x2 := hx.cells
  have y1 := hy.one
  have y2 := hy.cells
  simp only [putC, putRow, List.length_cons, List.length_append] at hn
  refine pval_has h rfl ?_
  simp only [l99_18, l99_20, l99_39, b99, f99]
  simp [-List.getD_eq_getElem?_getD, -Int.ofNat_toNat, -getElem?_pos, er99_0, er99_1, er99_2, er99_3, er99_4, er99_5, er99_6, er99_7, er99_8, er99_9, er99_10, er99_11, er99_12, er99_13, er99_14, er99_15, er99_16, er99_17, er99_19, er99_21, er99_22, er99_23, er99_24, er99_25, er99_26, er99_27, er99_28, er99_29, er99_30, er99_31, er99_32, er99_33, er99_34, er99_35, er99_36, er99_37, er99_38, er99_40, er99_41, n_tas, ta, x1, x2, y1, y2, setAt]
  refine w_crow h1 (own_lit false 1 [_] (by simp) [4, k] (by simp) _ rfl 2 rfl) hx (by simp) (by simp; omega) _ fun o1 H1 ho k1 l1 => ?_
  simp only [hid_k]
  refine ⟨fun b hb => k1 b (by simp at hb; omega), ?_⟩
  simp [-List.getD_eq_getElem?_getD, -Int.ofNat_toNat, -getElem?_pos, er99_0, er99_1, er99_2, er99_3, er99_4, er99_5, er99_6, er99_7, er99_8, er99_9, er99_10, er99_11, er99_12, er99_13, er99_14, er99_15, er99_16, er99_17, er99_19, er99_21, er99_22, er99_23, er99_24, er99_25, er99_26, er99_27, er99_28, er99_29, er99_30, er99_31, er99_32, er99_33, er99_34, er99_35, er99_36, er99_37, er99_38, er99_40, er99_41]
  simp only [List.length_append, List.length_cons, List.length_nil] at l1
  refine w_crows h2 h1 ho hy (by omega) (by simp only [List.length_append, List.length_cons, putRow, List.length_nil]; omega) _ fun o2 H2 ho2 k2 l2 => ?_
  simp only [hid_k]
  have hv := ho2.view
  simp only [rv_false] at hv
  have q1 := Own.one ho2
  have q2 := Own.cells ho2
  have q3 := Own.part ho2
  simp [-List.getD_eq_getElem?_getD, -Int.ofNat_toNat, -getElem?_pos, er99_0, er99_1, er99_2, er99_3, er99_4, er99_5, er99_6, er99_7, er99_8, er99_9, er99_10, er99_11, er99_12, er99_13, er99_14, er99_15, er99_16, er99_17, er99_19, er99_21, er99_22, er99_23, er99_24, er99_25, er99_26, er99_27, er99_28, er99_29, er99_30, er99_31, er99_32, er99_33, er99_34, er99_35, er99_36, er99_37, er99_38, er99_40, er99_41, q1, q2, q3, resK, resVs, resV, pack]
  exact hv
theorem rT_len (ts : List (List (List Int))) (rd : Nat → Option Ob) : nstep .lenS [rT ts] rd = some (.val (.int .i64 ts.length)) := by
  unfold rT rv
  split
  · rename_i h
    rw [h.2]; rfl
  · rfl
theorem rC_len (k : Nat) (ts : List (List Int)) (rd : Nat → Option Ob) : nstep .lenS [rC k ts] rd = some (.val (.int .i64 ts.length)) := by
  unfold rC rv
  split
  · rename_i h
    rw [h.2]; rfl
  · rfl
theorem rT_at {ts : List (List (List Int))} {i : Nat} (hi : i < ts.length) : ∃ l, (∀ (k : IntKind) rd, nstep (.idx 1) [rT ts, .int k (i : Int)] rd = some (.val (.vp l i))) ∧ l[i]? = some (rC 3 ts[i]) := by
  refine ⟨ts.map (rC 3), fun k rd => ?_, by simp [hi]⟩
  have : ¬ ts.length = 0 := by omega
  simp only [rT, rv, this, and_false, if_false]
  rw [n_idxV, if_pos ⟨rfl, by omega, by omega, by simp; omega⟩]; simp
theorem flat_len {k : Nat} : ∀ {ts : List (List Int)}, (∀ b ∈ ts, b.length = k) → ts.flatten.length = ts.length * k
  | [], _ => by simp
  | b :: ts, h => by
    rw [List.flatten_cons, List.length_append, flat_len fun b hb => h b (List.mem_cons_of_mem _ hb), h b List.mem_cons_self, List.length_cons, Nat.add_mul]; omega
theorem flat_at {k : Nat} : ∀ {ts : List (List Int)} {i : Nat} (hi : i < ts.length), (∀ b ∈ ts, b.length = k) → (ts.flatten.drop (i * k)).take k = ts[i]
  | [], i, hi, _ => by simp at hi
  | b :: ts, 0, hi, h => by
    have hb : b.length = k := h b List.mem_cons_self
    rw [Nat.zero_mul, List.drop_zero, List.flatten_cons, List.take_append_of_le_length (by omega), List.take_of_length_le (by omega)]; rfl
  | b :: ts, i + 1, hi, h => by
    have hb : b.length = k := h b List.mem_cons_self
    have := flat_at (ts := ts) (i := i) (by simpa using hi) fun b hb => h b (List.mem_cons_of_mem _ hb)
    rw [List.flatten_cons, List.drop_append, List.drop_of_length_le (by rw [hb, Nat.add_mul]; omega), List.nil_append, hb, show (i + 1) * k - k = i * k by rw [Nat.add_mul]; omega, this]; rfl
theorem rC_at {k : Nat} (hk : 0 < k) {ts : List (List Int)} {i : Nat} (hi : i < ts.length) (h : ∀ b ∈ ts, b.length = k) : (∀ (q : IntKind) rd, nstep (.idx k) [rC k ts, .int q (i : Int)] rd = some (.val (.vp (cI ts.flatten) (i * k)))) ∧ (∀ rd, nstep (.loadN k) [.vp (cI ts.flatten) (i * k)] rd = some (.val (.agg (cI ts[i])))) := by
  have h0 : ¬ ts.length = 0 := by omega
  have hl := flat_len h
  have hm : (i + 1) * k ≤ ts.length * k := Nat.mul_le_mul_right _ hi
  rw [Nat.add_mul, Nat.one_mul] at hm
  refine ⟨fun q rd => ?_, fun rd => ?_⟩
  · simp only [rC, rv, h0, and_false, if_false]
    rw [n_idxV, if_pos ⟨rfl, hk, by omega, by omega⟩]; simp
  · rw [n_loadNV, if_pos (by rw [cI_len, hl]; exact hm), cI_drop, cI_take, flat_at hi h]
theorem ownI_appR {nl : Bool} {P Q : Nat} {H : Heap} {v w : AV} {xs l : List Int} (ho : OwnI nl P H v xs) (hr : RdI Q H w l) (hP : P ≤ H.length) (hn : xs.length + l.length < 2000000000000) :
    ∃ o H', xstep (.app 1 8) [v, w] H = some (o, H') ∧ OwnI nl P H' o (xs ++ l) ∧ (∀ b, b < P → H'[b]? = H[b]?) ∧ H.length ≤ H'.length := by
  obtain ⟨o2, H2, y1, y2, y3, y4, _⟩ := Own.app (bytes := 8) ho hr.src (by rw [cI_len]; simp) (ones_cI l) hP (by omega)
  refine ⟨o2, H2, y1, ?_, fun b hb => y3 b (by omega) fun e => ?_, y4⟩
  · unfold OwnI
    rw [List.length_append, cI_append]; exact y2
  · have := (Own.blk ho e).1
    omega
theorem rd_lit {H : Heap} {b n : Nat} {cl : List AV} {l : List Int} (hb : H[b]? = some (.cells 0 false cl)) (hc : cl = cI l) (hn : n = l.length) : RdI (b + 1) H (.sl b 0 0 n 1 n true) l := by
  subst hc hn
  exact .inr (.inr ⟨b, 0, 0, _, true, rfl, Nat.le_refl _, fun _ => ⟨by omega, false, _, hb, by rw [cI_len]; omega, by rw [List.drop_zero, ← cI_len, List.take_length]⟩⟩)
theorem part_len {α : Type} (f : α → List Int) : ∀ (l : List α) (i : Nat), ((l.take i).flatMap f).length ≤ (l.flatMap f).length := fun l i => by
  conv => rhs; rw [← List.take_append_drop i l]
  rw [List.flatMap_append, List.length_append]; omega
theorem part_succ {α : Type} (f : α → List Int) (l : List α) {i : Nat} (hi : i < l.length) : (l.take (i + 1)).flatMap f = (l.take i).flatMap f ++ f l[i] := by
  rw [List.take_succ_eq_append_getElem hi, List.flatMap_append]; simp
set_option maxHeartbeats 4000000 in
theorem w_IntsRefusal (td : TyD φ) (h : Has A (φ 99) (f99 φ)) (h1 : Has A (φ 120) (f120 φ)) (h2 : Has A (φ 121) (f121 φ)) (e : Int) {c : List (List Int)} (hc : ∀ b ∈ c, b.length = 6) (hn : (putC (.refusal e c)).length < 100000000000) :
    PVal A (φ 99) [.iface (φ 95) (.agg [.int .i64 e, rC 6 c])] (vI (putC (.refusal e c))) := by
  have ta := td.all
  have c1 := rC_one 6 c
  have c2 := rC_cells 6 c
  have c3 := rC_len 6 c
  have hat := fun {i : Nat} (hi : i < c.length) => rC_at (k := 6) (by omega) hi hc
  have hfl := flat_len hc
  simp only [putC, List.length_cons] at hn
  refine pval_has h rfl ?_
  simp only [l99_18, l99_20, l99_39, b99, f99]
  generalize rC 6 c = C at *
  simp [-List.getD_eq_getElem?_getD, -Int.ofNat_toNat, -getElem?_pos, er99_0, er99_1, er99_2, er99_3, er99_4, er99_5, er99_6, er99_7, er99_8, er99_9, er99_10, er99_11, er99_12, er99_13, er99_14, er99_15, er99_16, er99_17, er99_19, er99_21, er99_22, er99_23, er99_24, er99_25, er99_26, er99_27, er99_28, er99_29, er99_30, er99_31, er99_32, er99_33, er99_34, er99_35, er99_36, er99_37, er99_38, er99_40, er99_41, n_tas, ta, c1, c2, c3, setAt]
  have ho0 := own_lit false 1 [Ob.cells 0 false [.int .i64 e, C]] (by simp) [6, e, (c.length : Int)] (by simp) _ rfl 3 rfl
  refine pc_loopI (fun m st => ∃ (i : Nat) (o p12 p37 : AV) (H' : Heap), i + m = c.length ∧ OwnI false 1 H' o (6 :: e :: (c.length : Int) :: (c.take i).flatten) ∧ H'[0]? = some (.cells 0 false [.int .i64 e, C]) ∧ 1 < H'.length ∧
    st = ([.iface (φ 95) (.agg [.int .i64 e, C]), .nils, .un, .un, .un, .un, .un, .un, .un, .un, .ptr 0 0 0, o, p12, .iface (φ 95) (.agg [.int .i64 e, C]), .bool false, .agg [.nils, .nils], .bool false, .agg [.nils, .nils, .nils], .un, .un, .un, .un, .un, .un, .un, .un, .bool false, .agg [.nils], .bool false, .agg [.int .i64 0, .nils, .nils], .bool false, .agg [.int .i64 0, .int .i64 0, .nils], .bool true, .agg [.int .i64 e, C], C, .int .i64 c.length, .int .i64 i, p37], H')) c.length
    ⟨0, _, _, _, _, by simp, by simpa [cI] using ho0, rfl, by simp, rfl⟩ ?_
  rintro m st ⟨i, o, p12, p37, H', hi, ho, hb0, hlen, rfl⟩
  by_cases hlt : i < c.length
  · have hlt' : (i : Int) < c.length := by omega
    obtain ⟨a1, a2⟩ := hat hlt
    have hci : c[i].length = 6 := hc _ (List.getElem_mem hlt)
    have hiw := wrap1 hlt (by omega)
    obtain ⟨y0, y1, y2, y3, y4, y5, hy⟩ : ∃ y0 y1 y2 y3 y4 y5, c[i] = [y0, y1, y2, y3, y4, y5] := by
      match hq : c[i], hci with
      | [y0, y1, y2, y3, y4, y5], _ => exact ⟨y0, y1, y2, y3, y4, y5, rfl⟩
    rw [hy] at a2
    have cI6 : cI [y0, y1, y2, y3, y4, y5] = [.int .i64 y0, .int .i64 y1, .int .i64 y2, .int .i64 y3, .int .i64 y4, .int .i64 y5] := rfl
    rw [cI6] at a2
    have ho2 := Own.more ho [Ob.cells 0 false [.int .i64 y0, .int .i64 y1, .int .i64 y2, .int .i64 y3, .int .i64 y4, .int .i64 y5], Ob.cells 0 false [.int .i64 y0, .int .i64 y1, .int .i64 y2, .int .i64 y3, .int .i64 y4, .int .i64 y5]]
    have hpl : ((c.take i).flatten).length ≤ c.flatten.length := by have := part_len id c i; simpa [List.flatMap_id] using this
    obtain ⟨o3, H3, z1, z2, z3, z4⟩ := ownI_appR (w := .sl (H'.length + 1) 0 0 6 1 6 true) (l := [y0, y1, y2, y3, y4, y5]) ho2 (rd_lit (get_at _ _ _) cI6.symm rfl) (by simp) (by simp only [List.length_cons, List.length_nil]; omega)
    simp [-List.getD_eq_getElem?_getD, -Int.ofNat_toNat, -getElem?_pos, er99_0, er99_1, er99_2, er99_3, er99_4, er99_5, er99_6, er99_7, er99_8, er99_9, er99_10, er99_11, er99_12, er99_13, er99_14, er99_15, er99_16, er99_17, er99_19, er99_21, er99_22, er99_23, er99_24, er99_25, er99_26, er99_27, er99_28, er99_29, er99_30, er99_31, er99_32, er99_33, er99_34, er99_35, er99_36, er99_37, er99_38, er99_40, er99_41, hlt', hlt, a1, a2, get_at, get_at0, set_at, set_at0, setAt, z1, hiw]
    refine next_mk (m - 1) (by omega) ⟨i + 1, o3, _, _, H3, by omega, ?_, by rw [z3 0 (by omega)]; rw [List.getElem?_append_left (by omega)]; exact hb0, by simp at z4; omega, rfl⟩
    have : (c.take (i + 1)).flatten = (c.take i).flatten ++ [y0, y1, y2, y3, y4, y5] := by rw [List.take_succ_eq_append_getElem hlt, List.flatten_append, hy]; simp
    rw [this]
    simpa using z2
  · have hlt' : ¬ (i : Int) < c.length := by omega
    have hie : i = c.length := by omega
    subst hie
    rw [List.take_length] at ho
    have hv := ho.view
    simp only [rv_false] at hv
    have q1 := Own.one ho
    have q2 := Own.cells ho
    have q3 := Own.part ho
    simp [-List.getD_eq_getElem?_getD, -Int.ofNat_toNat, -getElem?_pos, er99_0, er99_1, er99_2, er99_3, er99_4, er99_5, er99_6, er99_7, er99_8, er99_9, er99_10, er99_11, er99_12, er99_13, er99_14, er99_15, er99_16, er99_17, er99_19, er99_21, er99_22, er99_23, er99_24, er99_25, er99_26, er99_27, er99_28, er99_29, er99_30, er99_31, er99_32, er99_33, er99_34, er99_35, er99_36, er99_37, er99_38, er99_40, er99_41, hlt', q1, q2, q3, resK, resVs, resV, pack]
    exact hv
set_option maxHeartbeats 8000000 in
theorem w_IntsNarrow (td : TyD φ) (h : Has A (φ 99) (f99 φ)) (h1 : Has A (φ 120) (f120 φ)) (h2 : Has A (φ 121) (f121 φ)) {x y : AV} {s : List (List Int)} {u : List Int} (hx : IsRows x s) (hy : IsI y u) (t : List (List (List Int))) (ht : ∀ a ∈ t, ∀ b ∈ a, b.length = 3) (hn : (putC (.narrow s u t)).length < 100000000000) :
    PVal A (φ 99) [.iface (φ 91) (.agg [x, y, rT t])] (vI (putC (.narrow s u t))) := by
  have ta := td.all
  have x1 := hx.one
  have x2 := hx.cells
  have y1 := hy.one
  have y2 := hy.cells
  have c1 := rT_one t
  have c2 := rT_cells t
  have c3 := rT_len t
  have hat := fun {i : Nat} (hi : i < t.length) => rT_at hi
  have hfm := fun (a : List (List Int)) (ha : a ∈ t) => flat_len (ht a ha)
  simp only [putC, putRow, putTrees, List.length_cons, List.length_append] at hn
  have htl : t.length ≤ (t.flatMap fun t => (t.length : Int) :: t.flatten).length := by
    clear hn ta c1 c2 c3 hat hfm ht
    induction t with
    | nil => exact Nat.le_refl _
    | cons a t ih => simp only [List.flatMap_cons, List.length_append, List.length_cons]; omega
  refine pval_has h rfl ?_
  simp only [l99_18, l99_20, l99_39, b99, f99]
  generalize rT t = T at *
  simp [-List.getD_eq_getElem?_getD, -Int.ofNat_toNat, -getElem?_pos, er99_0, er99_1, er99_2, er99_3, er99_4, er99_5, er99_6, er99_7, er99_8, er99_9, er99_10, er99_11, er99_12, er99_13, er99_14, er99_15, er99_16, er99_17, er99_19, er99_21, er99_22, er99_23, er99_24, er99_25, er99_26, er99_27, er99_28, er99_29, er99_30, er99_31, er99_32, er99_33, er99_34, er99_35, er99_36, er99_37, er99_38, er99_40, er99_41, n_tas, ta, x1, x2, y1, y2, c1, c2, setAt]
  refine w_crows h2 h1 (own_lit false 1 [_] (by simp) [2] (by simp) _ rfl 1 rfl) hx (by simp) (by simp; omega) _ fun o1 H1 ho1 k1 l1 => ?_
  simp only [hid_k]
  refine ⟨fun b hb => k1 b (by simp at hb; omega), ?_⟩
  simp [-List.getD_eq_getElem?_getD, -Int.ofNat_toNat, -getElem?_pos, er99_0, er99_1, er99_2, er99_3, er99_4, er99_5, er99_6, er99_7, er99_8, er99_9, er99_10, er99_11, er99_12, er99_13, er99_14, er99_15, er99_16, er99_17, er99_19, er99_21, er99_22, er99_23, er99_24, er99_25, er99_26, er99_27, er99_28, er99_29, er99_30, er99_31, er99_32, er99_33, er99_34, er99_35, er99_36, er99_37, er99_38, er99_40, er99_41]
  simp only [List.length_append, List.length_cons, List.length_nil] at l1
  refine w_crow h1 ho1 hy (by omega) (by simp only [List.length_append, List.length_cons, List.length_nil]; omega) _ fun o2 H2 ho2 k2 l2 => ?_
  simp only [hid_k]
  have b2 : H2[0]? = some (.cells 0 false [x, y, T]) := (k2 0 (by omega)).trans (k1 0 (by omega))
  obtain ⟨o3, H3, z1, z2, z3, z4, _⟩ := OwnI.app1 ho2 (t.length : Int) (by omega) (by simp only [List.length_append, List.length_cons, List.length_nil, putRow]; omega)
  have b3 : H3[0]? = some (.cells 0 false [x, y, T]) := (z3 0 (by omega)).trans b2
  simp [-List.getD_eq_getElem?_getD, -Int.ofNat_toNat, -getElem?_pos, er99_0, er99_1, er99_2, er99_3, er99_4, er99_5, er99_6, er99_7, er99_8, er99_9, er99_10, er99_11, er99_12, er99_13, er99_14, er99_15, er99_16, er99_17, er99_19, er99_21, er99_22, er99_23, er99_24, er99_25, er99_26, er99_27, er99_28, er99_29, er99_30, er99_31, er99_32, er99_33, er99_34, er99_35, er99_36, er99_37, er99_38, er99_40, er99_41, b2, b3, c3, z1]
  obtain ⟨pre, hpre⟩ : ∃ pre, [2] ++ putRows s ++ putRow u ++ [(t.length : Int)] = pre := ⟨_, rfl⟩
  have hpl : pre.length = (putRows s).length + u.length + 3 := by subst hpre; simp [putRow]; omega
  rw [hpre] at z2
  refine pc_loopI (fun m st => ∃ (i : Nat) (o p5 p6 p21 p22 p23 p24 p25 : AV) (H' : Heap), i + m = t.length ∧ OwnI false 1 H' o (pre ++ (t.take i).flatMap fun t => (t.length : Int) :: t.flatten) ∧ H'[0]? = some (.cells 0 false [x, y, T]) ∧ 1 ≤ H'.length ∧
    st = ([.iface (φ 91) (.agg [x, y, T]), .nils, .un, .ptr 0 0 0, o, p5, p6, .un, .un, .un, .un, .un, .un, .iface (φ 91) (.agg [x, y, T]), .bool false, .agg [.nils, .nils], .bool true, .agg [x, y, T], T, .int .i64 t.length, .int .i64 i, p21, p22, p23, p24, p25, .un, .un, .un, .un, .un, .un, .un, .un, .un, .un, .un, .un], H')) t.length
    ⟨0, o3, _, _, _, _, _, _, _, H3, by simp, by simpa using z2, b3, by omega, rfl⟩ ?_
  rintro m st ⟨i, o, p5, p6, p21, p22, p23, p24, p25, H', hi, ho, hb0, hlen, rfl⟩
  by_cases hlt : i < t.length
  · have hlt' : (i : Int) < t.length := by omega
    obtain ⟨L, a1, a2⟩ := hat hlt
    have hti := ht _ (List.getElem_mem hlt)
    have hfi := hfm _ (List.getElem_mem hlt)
    have hiw := wrap1 hlt (by omega)
    have hs1 := part_succ (fun t : List (List Int) => (t.length : Int) :: t.flatten) t hlt
    have hs2 := part_len (fun t : List (List Int) => (t.length : Int) :: t.flatten) t (i + 1)
    rw [hs1, List.length_append, List.length_cons] at hs2
    obtain ⟨tr, htr⟩ : ∃ tr, t[i] = tr := ⟨_, rfl⟩
    rw [htr] at a2 hti hfi hs1 hs2
    obtain ⟨B, hB⟩ : ∃ B, (t.take i).flatMap (fun t : List (List Int) => (t.length : Int) :: t.flatten) = B := ⟨_, rfl⟩
    rw [hB] at ho hs1 hs2
    have r1 := rC_one 3 tr
    have r2 := rC_len 3 tr
    have hatr := fun {j : Nat} (hj : j < tr.length) => rC_at (k := 3) (by omega) hj hti
    obtain ⟨o4, H4, w1, w2, w3, w4, _⟩ := OwnI.app1 ho (tr.length : Int) hlen (by simp only [List.length_append]; omega)
    generalize rC 3 tr = R at *
    simp [-List.getD_eq_getElem?_getD, -Int.ofNat_toNat, -getElem?_pos, er99_0, er99_1, er99_2, er99_3, er99_4, er99_5, er99_6, er99_7, er99_8, er99_9, er99_10, er99_11, er99_12, er99_13, er99_14, er99_15, er99_16, er99_17, er99_19, er99_21, er99_22, er99_23, er99_24, er99_25, er99_26, er99_27, er99_28, er99_29, er99_30, er99_31, er99_32, er99_33, er99_34, er99_35, er99_36, er99_37, er99_38, er99_40, er99_41, hlt', hlt, a1, a2, r1, r2, w1]
    refine pc_loopI (fun m st => ∃ (j : Nat) (o p6 p25 : AV) (H' : Heap), j + m = tr.length ∧ OwnI false 1 H' o (pre ++ B ++ (tr.length : Int) :: (tr.take j).flatten) ∧ H'[0]? = some (.cells 0 false [x, y, T]) ∧ 1 ≤ H'.length ∧
      st = ([.iface (φ 91) (.agg [x, y, T]), .nils, .un, .ptr 0 0 0, o, R, p6, .un, .un, .un, .un, .un, .un, .iface (φ 91) (.agg [x, y, T]), .bool false, .agg [.nils, .nils], .bool true, .agg [x, y, T], T, .int .i64 t.length, .int .i64 i, .bool true, R, .int .i64 tr.length, .int .i64 j, p25, .un, .un, .un, .un, .un, .un, .un, .un, .un, .un, .un, .un], H')) tr.length
      ⟨0, o4, _, _, H4, by simp, by simpa using w2, (w3 0 (by omega)).trans hb0, by omega, rfl⟩ ?_
    rintro m2 st2 ⟨j, o5, q6, q25, H5, hj, ho5, hb5, hlen5, rfl⟩
    by_cases hlj : j < tr.length
    · have hlj' : (j : Int) < tr.length := by omega
      obtain ⟨e1, e2⟩ := hatr hlj
      have hcj : tr[j].length = 3 := hti _ (List.getElem_mem hlj)
      have hjw := wrap1 hlj (by omega)
      obtain ⟨v0, v1, v2, hv⟩ : ∃ v0 v1 v2, tr[j] = [v0, v1, v2] := by
        match hq : tr[j], hcj with
        | [v0, v1, v2], _ => exact ⟨v0, v1, v2, rfl⟩
      rw [hv] at e2
      have cI3 : cI [v0, v1, v2] = [.int .i64 v0, .int .i64 v1, .int .i64 v2] := rfl
      rw [cI3] at e2
      have hpl2 : ((tr.take j).flatten).length ≤ tr.flatten.length := by have := part_len id tr j; simpa [List.flatMap_id] using this
      have ho6 := Own.more ho5 [Ob.cells 0 false [.int .i64 v0, .int .i64 v1, .int .i64 v2], Ob.cells 0 false [.int .i64 v0, .int .i64 v1, .int .i64 v2]]
      obtain ⟨o7, H7, f1, f2, f3, f4⟩ := ownI_appR (w := .sl (H5.length + 1) 0 0 3 1 3 true) (l := [v0, v1, v2]) ho6 (rd_lit (get_at _ _ _) cI3.symm rfl) (by simp) (by simp only [List.length_append, List.length_cons, List.length_nil]; omega)
      simp [-List.getD_eq_getElem?_getD, -Int.ofNat_toNat, -getElem?_pos, er99_0, er99_1, er99_2, er99_3, er99_4, er99_5, er99_6, er99_7, er99_8, er99_9, er99_10, er99_11, er99_12, er99_13, er99_14, er99_15, er99_16, er99_17, er99_19, er99_21, er99_22, er99_23, er99_24, er99_25, er99_26, er99_27, er99_28, er99_29, er99_30, er99_31, er99_32, er99_33, er99_34, er99_35, er99_36, er99_37, er99_38, er99_40, er99_41, hlj', hlj, e1, e2, get_at, get_at0, set_at, set_at0, setAt, f1, hjw]
      refine next_mk (m2 - 1) (by omega) ⟨j + 1, o7, _, _, H7, by omega, ?_, by rw [f3 0 (by omega), List.getElem?_append_left (by omega)]; exact hb5, by simp at f4; omega, rfl⟩
      have : (tr.take (j + 1)).flatten = (tr.take j).flatten ++ [v0, v1, v2] := by rw [List.take_succ_eq_append_getElem hlj, List.flatten_append, hv]; simp
      rw [this]
      simpa using f2
    · have hlj' : ¬ (j : Int) < tr.length := by omega
      have hje : j = tr.length := by omega
      subst hje
      rw [List.take_length] at ho5
      simp [-List.getD_eq_getElem?_getD, -Int.ofNat_toNat, -getElem?_pos, er99_0, er99_1, er99_2, er99_3, er99_4, er99_5, er99_6, er99_7, er99_8, er99_9, er99_10, er99_11, er99_12, er99_13, er99_14, er99_15, er99_16, er99_17, er99_19, er99_21, er99_22, er99_23, er99_24, er99_25, er99_26, er99_27, er99_28, er99_29, er99_30, er99_31, er99_32, er99_33, er99_34, er99_35, er99_36, er99_37, er99_38, er99_40, er99_41, hlj', hiw]
      refine next_mk (m - 1) (by omega) ⟨i + 1, o5, _, _, _, _, _, _, _, H5, by omega, ?_, hb5, hlen5, rfl⟩
      rw [hs1]
      simpa using ho5
  · have hlt' : ¬ (i : Int) < t.length := by omega
    have hie : i = t.length := by omega
    subst hie
    rw [List.take_length] at ho
    have hv := ho.view
    simp only [rv_false] at hv
    have q1 := Own.one ho
    have q2 := Own.cells ho
    have q3 := Own.part ho
    simp [-List.getD_eq_getElem?_getD, -Int.ofNat_toNat, -getElem?_pos, er99_0, er99_1, er99_2, er99_3, er99_4, er99_5, er99_6, er99_7, er99_8, er99_9, er99_10, er99_11, er99_12, er99_13, er99_14, er99_15, er99_16, er99_17, er99_19, er99_21, er99_22, er99_23, er99_24, er99_25, er99_26, er99_27, er99_28, er99_29, er99_30, er99_31, er99_32, er99_33, er99_34, er99_35, er99_36, er99_37, er99_38, er99_40, er99_41, hlt', q1, q2, q3, resK, resVs, resV, pack]
    have : pre ++ (t.flatMap fun t => (t.length : Int) :: t.flatten) = putC (.narrow s u t) := by rw [← hpre]; simp [putC, putTrees]
    rw [this] at hv
    exact hv
theorem w_Ints (td : TyD φ) (h : Has A (φ 99) (f99 φ)) (h1 : Has A (φ 120) (f120 φ)) (h2 : Has A (φ 121) (f121 φ)) {v : AV} {c : CV} (hv : IsCV φ v c) (hn : (putC c).length < 100000000000) : PVal A (φ 99) [v] (vI (putC c)) := by
  cases hv with
  | pages hx hy => exact w_IntsPages td h h1 h2 hx hy hn
  | narrow hx hy t ht => exact w_IntsNarrow td h h1 h2 hx hy t ht hn
  | ring hx => exact w_IntsRing td h h1 h2 hx hn
  | bar k hx hy => exact w_IntsBar td h h1 h2 k hx hy hn
  | gap a b hx => exact w_IntsGap td h h1 h2 a b hx hn
  | refusal e c hc => exact w_IntsRefusal td h h1 h2 e hc hn
end Go.Ai.G
/- ref22: where a certificate's parts end. -/
namespace Go.Ai.G
open Go.Ai
set_option maxRecDepth 100000
set_option linter.unusedSimpArgs false
set_option linter.unusedVariables false
variable {A : AProg} {φ : Nat → Nat}
attribute [local simp ↓] getD_z getD_s hid_k hid_o hid_q hid_v PO_nil PO_none PO_grd PD_nil PD_none PD_grd PDO_N PDO_X PDO_call PDO_calli PDO_callv PSX_N PSX_X PSX_call PSX_calli PSX_callv PSX_inv
  PSX_callp PSX_panic PDO_inv PStep_inv thenC_pan blockC_pan loopC_pan endX_ret endX_norm endX_pan PStep_N PStep_X PStep_call PStep_calli PC_skip PC_lab PC_ret PC_exit PC_reg PC_draw
  PC_seq PC_block PC_loop PC_scope PC_cond thenC_norm thenC_ret thenC_exit blockC_norm blockC_ret blockC_exit loopC_norm loopC_ret loopC_exit endR_ret endR_norm
attribute [local simp] gz PDX_free PDX_eq KI_some n_mki n_tas0 n_tasf PStep_callv resK_none resK_t resK_tt KNO_val KNO_new KNO_ite KNO_map KXO_some KXO_ite KVA_t KVA_f KG_skip KG_tt KG_ff KG_tf KG_ft
  KB_true KB_false KNOD_val KNOD_new KNOD_ite n_mv n_pick n_bin n_eqB n_eqN n_eqS n_un n_conv n_fadd n_faddV n_fld1 n_fldN n_idx n_idxA n_idxV n_idxAV n_ext n_lenS n_lenS0 n_lenV
  n_lenT n_lenA n_min n_max n_build n_mkfn n_slc n_slc0 n_slcV n_slcA n_load1 n_loadN n_load1V n_loadNV n_alloc n_box n_bsl n_mksl n_nilcP n_nilcV n_nilcI n_nilcF x_store x_clear0
  x_clear b_add b_sub b_mul b_eql b_neq b_lss b_leq b_gtr b_geq b_and16 unV ntouch gather hide unhide evalOpd applyOuts int_bne int_beq ite_bool ite_int one_bool cells_bool one_int
  cells_int one_str cells_str one_nilp cells_nilp one_ptr cells_ptr one_nils cells_nils one_sl cells_sl one_nilf cells_nilf one_fn cells_fn one_nili cells_nili one_mp cells_mp
  one_nilm cells_nilm one_iface cells_iface one_vs cells_vs one_vp cells_vp cells_agg Nat.testBit setAt_1 setAt_2 closeds_nil closeds_cons closed_bool closed_int closed_str
  closed_nilp closed_nils closed_nilm closed_nilf closed_nili closed_agg closed_tup closed_vs closed_vp closed_iface closed_fn closeds_cI closeds_cE viewA_closed viewR_closed AV.scal
  AV.scal0 fillA repA part_bool part_int part_str part_nilp part_ptr part_nils part_sl part_nilm part_mp part_nilf part_fn part_nili part_iface part_agg part_vs part_vp viewA_sl1
  vaSl_cells wrap_0 wrap_1 wrap_2 wrap_m1 set_last get_last
def rest {α : Type} (p : List Int → Option (α × List Int)) (t : List Int) : Option (List Int) := (p t).map Prod.snd
theorem cntP_cons (each : Nat) (n : Int) (r : List Int) : cntP each (n :: r) = if 0 ≤ n ∧ n ≤ ((r.length / each : Nat) : Int) then some (n.toNat, r) else none := rfl
def thingsP (k : Nat) (l : List Int) : Option (List (List Int) × List Int) :=
  match cntP k l with
  | none => none
  | some (n, r) => repP (takeP k) n r
end Go.Ai.G
/- ref22.Is, and what Read reads. -/
namespace Go.Ai.G
open Go.Ai
set_option maxRecDepth 100000
set_option linter.unusedSimpArgs false
set_option linter.unusedVariables false
variable {A : AProg} {φ : Nat → Nat}
attribute [local simp ↓] getD_z getD_s hid_k hid_o hid_q hid_v PO_nil PO_none PO_grd PD_nil PD_none PD_grd PDO_N PDO_X PDO_call PDO_calli PDO_callv PSX_N PSX_X PSX_call PSX_calli PSX_callv PSX_inv
  PSX_callp PSX_panic PDO_inv PStep_inv thenC_pan blockC_pan loopC_pan endX_ret endX_norm endX_pan PStep_N PStep_X PStep_call PStep_calli PC_skip PC_lab PC_ret PC_exit PC_reg PC_draw
  PC_seq PC_block PC_loop PC_scope PC_cond thenC_norm thenC_ret thenC_exit blockC_norm blockC_ret blockC_exit loopC_norm loopC_ret loopC_exit endR_ret endR_norm
attribute [local simp] gz PDX_free PDX_eq KI_some n_mki n_tas0 n_tasf PStep_callv resK_none resK_t resK_tt KNO_val KNO_new KNO_ite KNO_map KXO_some KXO_ite KVA_t KVA_f KG_skip KG_tt KG_ff KG_tf KG_ft
  KB_true KB_false KNOD_val KNOD_new KNOD_ite n_mv n_pick n_bin n_eqB n_eqN n_eqS n_un n_conv n_fadd n_faddV n_fld1 n_fldN n_idx n_idxA n_idxV n_idxAV n_ext n_lenS n_lenS0 n_lenV
  n_lenT n_lenA n_min n_max n_build n_mkfn n_slc n_slc0 n_slcV n_slcA n_load1 n_loadN n_load1V n_loadNV n_alloc n_box n_bsl n_mksl n_nilcP n_nilcV n_nilcI n_nilcF x_store x_clear0
  x_clear b_add b_sub b_mul b_eql b_neq b_lss b_leq b_gtr b_geq b_and16 unV ntouch gather hide unhide evalOpd applyOuts int_bne int_beq ite_bool ite_int one_bool cells_bool one_int
  cells_int one_str cells_str one_nilp cells_nilp one_ptr cells_ptr one_nils cells_nils one_sl cells_sl one_nilf cells_nilf one_fn cells_fn one_nili cells_nili one_mp cells_mp
  one_nilm cells_nilm one_iface cells_iface one_vs cells_vs one_vp cells_vp cells_agg Nat.testBit setAt_1 setAt_2 closeds_nil closeds_cons closed_bool closed_int closed_str
  closed_nilp closed_nils closed_nilm closed_nilf closed_nili closed_agg closed_tup closed_vs closed_vp closed_iface closed_fn closeds_cI closeds_cE viewA_closed viewR_closed AV.scal
  AV.scal0 fillA repA part_bool part_int part_str part_nilp part_ptr part_nils part_sl part_nilm part_mp part_nilf part_fn part_nili part_iface part_agg part_vs part_vp viewA_sl1
  vaSl_cells wrap_0 wrap_1 wrap_2 wrap_m1 set_last get_last
theorem readR_iff (l : List Int) (c : CV) : readR l = some c ↔ certP l = some (some c, []) := by
  unfold readR
  constructor
  · intro h
    split at h
    · rename_i c' h'; cases h; exact h'
    · cases h
  · intro h; rw [h]
end Go.Ai.G
/- What is read is what was written. -/
namespace Go.Ai.G
open Go.Ai
set_option maxRecDepth 100000
set_option linter.unusedSimpArgs false
set_option linter.unusedVariables false
/-- The parser reads just what was put. -/
def Rds {α : Type} (p : List Int → Option (α × List Int)) (put : α → List Int) (ok : α → Prop) : Prop := ∀ l a t, p l = some (a, t) ↔ l = put a ++ t ∧ ok a
theorem rds_rep {α : Type} {p : List Int → Option (α × List Int)} {put : α → List Int} {ok : α → Prop} (h : Rds p put ok) : ∀ n, Rds (repP p n) (fun as => as.flatMap put) (fun as => as.length = n ∧ ∀ a ∈ as, ok a)
  | 0, l, as, t => by
    simp only [repP, Option.some.injEq, Prod.mk.injEq]
    constructor
    · rintro ⟨rfl, rfl⟩; exact ⟨rfl, rfl, fun a h => by simp at h⟩
    · rintro ⟨h1, h2, _⟩
      have : as = [] := List.length_eq_zero_iff.1 h2
      subst this
      exact ⟨rfl, h1⟩
  | n + 1, l, as, t => by
    have ih := rds_rep h n
    simp only [repP]
    constructor
    · intro e
      cases hp : p l with
      | none => rw [hp] at e; cases e
      | some y =>
        obtain ⟨a, l1⟩ := y
        rw [hp] at e
        simp only at e
        cases hr : repP p n l1 with
        | none => rw [hr] at e; cases e
        | some z =>
          obtain ⟨bs, l2⟩ := z
          rw [hr] at e
          simp only [Option.some.injEq, Prod.mk.injEq] at e
          obtain ⟨rfl, rfl⟩ := e
          obtain ⟨e1, e2⟩ := (h _ _ _).1 hp
          obtain ⟨e3, e4, e5⟩ := (ih _ _ _).1 hr
          refine ⟨by rw [e1, e3]; simp, by simp [e4], fun b hb => ?_⟩
          rcases List.mem_cons.1 hb with rfl | hb
          · exact e2
          · exact e5 b hb
    · rintro ⟨e1, e2, e3⟩
      cases as with
      | nil => simp at e2
      | cons a as =>
        have hp : p l = some (a, as.flatMap put ++ t) := (h _ _ _).2 ⟨by rw [e1]; simp, e3 a List.mem_cons_self⟩
        have hr : repP p n (as.flatMap put ++ t) = some (as, t) := (ih _ _ _).2 ⟨rfl, by simpa using e2, fun b hb => e3 b (List.mem_cons_of_mem _ hb)⟩
        rw [hp]; simp only; rw [hr]
theorem rds_row : Rds rowP putRow fun _ => True := fun l a t => by
  cases l with
  | nil => simp [rowP, cntP, putRow]
  | cons n r =>
    simp only [rowP, cntP_cons, Nat.div_one, putRow, List.cons_append, List.cons.injEq, and_true]
    constructor
    · intro h
      split at h
      · cases h
      · rename_i n' r' e
        split at e
        · rename_i hc
          cases e
          simp only [Option.some.injEq, Prod.mk.injEq] at h
          obtain ⟨rfl, rfl⟩ := h
          exact ⟨by rw [List.length_take]; omega, (List.take_append_drop _ _).symm⟩
        · cases e
    · rintro ⟨rfl, rfl⟩
      rw [if_pos ⟨by omega, by simp; omega⟩]
      simp
theorem rds_one : Rds oneP (fun x => [x]) fun _ => True := fun l a t => by
  cases l with
  | nil => simp [oneP]
  | cons n r => simp [oneP]
theorem rds_take (k : Nat) : Rds (takeP k) id fun a => a.length = k := fun l a t => by
  simp only [takeP, id]
  constructor
  · intro h
    split at h
    · rename_i hc
      simp only [Option.some.injEq, Prod.mk.injEq] at h
      obtain ⟨rfl, rfl⟩ := h
      exact ⟨(List.take_append_drop _ _).symm, by rw [List.length_take]; omega⟩
    · cases h
  · rintro ⟨rfl, rfl⟩
    rw [if_pos (by simp)]
    simp
theorem rds_cnt {α : Type} {p : List Int → Option (α × List Int)} {put : α → List Int} {ok : α → Prop} (h : Rds p put ok) (k : Nat) (hk : 0 < k) (hl : ∀ as : List α, (∀ a ∈ as, ok a) → as.length * k ≤ (as.flatMap put).length) :
    Rds (fun l => match cntP k l with
      | none => none
      | some (n, r) => repP p n r) (fun as => (as.length : Int) :: as.flatMap put) (fun as => ∀ a ∈ as, ok a) := fun l as t => by
  cases l with
  | nil => simp [cntP]
  | cons n r =>
    simp only [cntP_cons, List.cons_append, List.cons.injEq]
    constructor
    · intro e
      split at e
      · cases e
      · rename_i n' r' hc
        split at hc
        · rename_i hc'
          cases hc
          obtain ⟨e1, e2, e3⟩ := (rds_rep h _ _ _ _).1 e
          exact ⟨⟨by omega, e1⟩, e3⟩
        · cases hc
    · rintro ⟨⟨rfl, rfl⟩, h2⟩
      have hle := hl as h2
      have : as.length ≤ (as.flatMap put ++ t).length / k := (Nat.le_div_iff_mul_le hk).2 (by rw [List.length_append]; omega)
      rw [if_pos ⟨by omega, by omega⟩]
      exact (rds_rep h _ _ _ _).2 ⟨rfl, by simp, h2⟩
theorem rds_rows : Rds rowsP putRows fun _ => True := fun l as t => by
  have := rds_cnt rds_row 1 (by omega) (fun as _ => by have := putRow_len as; omega) l as t
  simp only [imp_true_iff] at this
  exact this
theorem rds_things (k : Nat) (hk : 0 < k) : Rds (thingsP k) (fun as => (as.length : Int) :: as.flatten) fun as => ∀ a ∈ as, a.length = k := fun l as t => by
  have := rds_cnt (rds_take k) k hk (fun as h => by rw [List.flatMap_id, flat_len h]; exact Nat.le_refl _) l as t
  simp only [List.flatMap_id] at this
  exact this
theorem rds_trees : Rds treesP putTrees fun ts => ∀ a ∈ ts, ∀ b ∈ a, b.length = 3 := fun l as t => by
  have hl : ∀ as : List (List (List Int)), as.length ≤ (as.flatMap fun as => (as.length : Int) :: as.flatten).length := fun as => by
    induction as with
    | nil => exact Nat.le_refl _
    | cons a as ih => simp only [List.flatMap_cons, List.length_append, List.length_cons]; omega
  have := rds_cnt (rds_things 3 (by omega)) 1 (by omega) (fun as _ => by have := hl as; omega) l as t
  exact this
theorem bindP_iff {α β : Type} (x : Option (α × List Int)) (f : α → List Int → Option (β × List Int)) (y : β × List Int) : bindP x f = some y ↔ ∃ a l, x = some (a, l) ∧ f a l = some y := by
  cases x with
  | none => simp [bindP]
  | some z => obtain ⟨a, l⟩ := z; simp [bindP, and_assoc]
theorem certP_iff (l t : List Int) (c : CV) : certP l = some (some c, t) ↔ l = putC c ++ t ∧ okC c := by
  constructor
  · intro h
    cases l with
    | nil => cases h
    | cons k r =>
      simp only [certP] at h
      split at h
      · rename_i hk
        subst hk
        simp only [bindP_iff] at h
        obtain ⟨o, l1, h1, c2, l2, h2, e⟩ := h
        simp only [Option.some.injEq, Prod.mk.injEq] at e
        obtain ⟨rfl, rfl⟩ := e
        obtain ⟨e1, _⟩ := (rds_row _ _ _).1 h1
        obtain ⟨e2, _⟩ := (rds_rows _ _ _).1 h2
        exact ⟨by rw [e1, e2]; simp [putC], trivial⟩
      split at h
      · rename_i hk
        subst hk
        simp only [bindP_iff] at h
        obtain ⟨o, l1, h1, c2, l2, h2, c3, l3, h3, e⟩ := h
        simp only [Option.some.injEq, Prod.mk.injEq] at e
        obtain ⟨rfl, rfl⟩ := e
        obtain ⟨e1, _⟩ := (rds_rows _ _ _).1 h1
        obtain ⟨e2, _⟩ := (rds_row _ _ _).1 h2
        obtain ⟨e3, e4⟩ := (rds_trees _ _ _).1 h3
        exact ⟨by rw [e1, e2, e3]; simp [putC], e4⟩
      split at h
      · rename_i hk
        subst hk
        simp only [bindP_iff] at h
        obtain ⟨o, l1, h1, e⟩ := h
        simp only [Option.some.injEq, Prod.mk.injEq] at e
        obtain ⟨rfl, rfl⟩ := e
        obtain ⟨e1, _⟩ := (rds_row _ _ _).1 h1
        exact ⟨by rw [e1]; simp [putC], trivial⟩
      split at h
      · rename_i hk
        subst hk
        simp only [bindP_iff] at h
        obtain ⟨o, l1, h1, c2, l2, h2, c3, l3, h3, e⟩ := h
        simp only [Option.some.injEq, Prod.mk.injEq] at e
        obtain ⟨rfl, rfl⟩ := e
        obtain ⟨e1, _⟩ := (rds_one _ _ _).1 h1
        obtain ⟨e2, _⟩ := (rds_row _ _ _).1 h2
        obtain ⟨e3, _⟩ := (rds_rows _ _ _).1 h3
        exact ⟨by rw [e1, e2, e3]; simp [putC], trivial⟩
      split at h
      · rename_i hk
        subst hk
        simp only [bindP_iff] at h
        obtain ⟨o, l1, h1, c2, l2, h2, c3, l3, h3, e⟩ := h
        simp only [Option.some.injEq, Prod.mk.injEq] at e
        obtain ⟨rfl, rfl⟩ := e
        obtain ⟨e1, _⟩ := (rds_one _ _ _).1 h1
        obtain ⟨e2, _⟩ := (rds_one _ _ _).1 h2
        obtain ⟨e3, _⟩ := (rds_row _ _ _).1 h3
        exact ⟨by rw [e1, e2, e3]; simp [putC], trivial⟩
      split at h
      · rename_i hk
        subst hk
        simp only [bindP_iff] at h
        obtain ⟨o, l1, h1, c2, l2, h2, e⟩ := h
        simp only [Option.some.injEq, Prod.mk.injEq] at e
        obtain ⟨rfl, rfl⟩ := e
        obtain ⟨e1, _⟩ := (rds_one _ _ _).1 h1
        obtain ⟨e2, e3⟩ := (rds_things 6 (by omega) _ _ _).1 h2
        exact ⟨by rw [e1, e2]; simp [putC], e3⟩
      · cases h
  · rintro ⟨rfl, hok⟩
    cases c with
    | pages o c =>
      simp only [putC, List.cons_append, certP, if_true, bindP_iff]
      exact ⟨o, _, (rds_row _ _ _).2 ⟨by first | exact List.append_assoc _ _ _ | simp only [List.append_assoc], trivial⟩, c, t, (rds_rows _ _ _).2 ⟨rfl, trivial⟩, rfl⟩
    | narrow s u ts =>
      simp only [putC, List.cons_append, certP, if_true, bindP_iff]
      rw [if_neg (by decide)]
      simp only [bindP_iff]
      exact ⟨s, _, (rds_rows _ _ _).2 ⟨by first | exact List.append_assoc _ _ _ | simp only [List.append_assoc], trivial⟩, u, _, (rds_row _ _ _).2 ⟨rfl, trivial⟩, ts, t, (rds_trees _ _ _).2 ⟨rfl, hok⟩, rfl⟩
    | ring o =>
      simp only [putC, List.cons_append, certP]
      rw [if_neg (by decide), if_neg (by decide), if_pos trivial]
      simp only [bindP_iff]
      exact ⟨o, t, (rds_row _ _ _).2 ⟨rfl, trivial⟩, rfl⟩
    | bar k s p =>
      simp only [putC, List.cons_append, certP]
      rw [if_neg (by decide), if_neg (by decide), if_neg (by decide), if_pos trivial]
      simp only [bindP_iff]
      exact ⟨k, putRow s ++ putRows p ++ t, (rds_one _ _ _).2 ⟨rfl, trivial⟩, s, putRows p ++ t, (rds_row _ _ _).2 ⟨List.append_assoc _ _ _, trivial⟩, p, t, (rds_rows _ _ _).2 ⟨rfl, trivial⟩, rfl⟩
    | gap a b o =>
      simp only [putC, List.cons_append, certP]
      rw [if_neg (by decide), if_neg (by decide), if_neg (by decide), if_neg (by decide), if_pos trivial]
      simp only [bindP_iff]
      exact ⟨a, _, (rds_one _ _ _).2 ⟨rfl, trivial⟩, b, _, (rds_one _ _ _).2 ⟨rfl, trivial⟩, o, t, (rds_row _ _ _).2 ⟨rfl, trivial⟩, rfl⟩
    | refusal e c =>
      simp only [putC, List.cons_append, certP]
      rw [if_neg (by decide), if_neg (by decide), if_neg (by decide), if_neg (by decide), if_neg (by decide), if_pos trivial]
      simp only [bindP_iff]
      exact ⟨e, _, (rds_one _ _ _).2 ⟨rfl, trivial⟩, c, t, (rds_things 6 (by omega) _ _ _).2 ⟨rfl, hok⟩, rfl⟩
theorem readR_put (l : List Int) (c : CV) : readR l = some c ↔ l = putC c ∧ okC c := by
  rw [readR_iff, certP_iff, List.append_nil]
end Go.Ai.G
/- The contracts of layer 22, together; what must be in any case. -/
namespace Go.Ai.G
open Go.Ai
set_option maxRecDepth 100000
set_option linter.unusedSimpArgs false
set_option linter.unusedVariables false
variable {A : AProg} {φ : Nat → Nat}
attribute [local simp ↓] getD_z getD_s hid_k hid_o hid_q hid_v PO_nil PO_none PO_grd PD_nil PD_none PD_grd PDO_N PDO_X PDO_call PDO_calli PDO_callv PSX_N PSX_X PSX_call PSX_calli PSX_callv PSX_inv
  PSX_callp PSX_panic PDO_inv PStep_inv thenC_pan blockC_pan loopC_pan endX_ret endX_norm endX_pan PStep_N PStep_X PStep_call PStep_calli PC_skip PC_lab PC_ret PC_exit PC_reg PC_draw
  PC_seq PC_block PC_loop PC_scope PC_cond thenC_norm thenC_ret thenC_exit blockC_norm blockC_ret blockC_exit loopC_norm loopC_ret loopC_exit endR_ret endR_norm
attribute [local simp] gz PDX_free PDX_eq KI_some n_mki n_tas0 n_tasf PStep_callv resK_none resK_t resK_tt KNO_val KNO_new KNO_ite KNO_map KXO_some KXO_ite KVA_t KVA_f KG_skip KG_tt KG_ff KG_tf KG_ft
  KB_true KB_false KNOD_val KNOD_new KNOD_ite n_mv n_pick n_bin n_eqB n_eqN n_eqS n_un n_conv n_fadd n_faddV n_fld1 n_fldN n_idx n_idxA n_idxV n_idxAV n_ext n_lenS n_lenS0 n_lenV
  n_lenT n_lenA n_min n_max n_build n_mkfn n_slc n_slc0 n_slcV n_slcA n_load1 n_loadN n_load1V n_loadNV n_alloc n_box n_bsl n_mksl n_nilcP n_nilcV n_nilcI n_nilcF x_store x_clear0
  x_clear b_add b_sub b_mul b_eql b_neq b_lss b_leq b_gtr b_geq b_and16 unV ntouch gather hide unhide evalOpd applyOuts int_bne int_beq ite_bool ite_int one_bool cells_bool one_int
  cells_int one_str cells_str one_nilp cells_nilp one_ptr cells_ptr one_nils cells_nils one_sl cells_sl one_nilf cells_nilf one_fn cells_fn one_nili cells_nili one_mp cells_mp
  one_nilm cells_nilm one_iface cells_iface one_vs cells_vs one_vp cells_vp cells_agg Nat.testBit setAt_1 setAt_2 closeds_nil closeds_cons closed_bool closed_int closed_str
  closed_nilp closed_nils closed_nilm closed_nilf closed_nili closed_agg closed_tup closed_vs closed_vp closed_iface closed_fn closeds_cI closeds_cE viewA_closed viewR_closed AV.scal
  AV.scal0 fillA repA part_bool part_int part_str part_nilp part_ptr part_nils part_sl part_nilm part_mp part_nilf part_fn part_nili part_iface part_agg part_vs part_vp viewA_sl1
  vaSl_cells wrap_0 wrap_1 wrap_2 wrap_m1 set_last get_last
theorem er84_0 (φ : Nat → Nat) : r84_0 φ = [
  ⟨0, .N .mv, [.c (.bool false)], none, 0⟩] := Eq.trans rfl rfl
theorem er84_1 (φ : Nat → Nat) : r84_1 φ = [
  ⟨0, .N (.bsl [.int .i64 0] 3 1 [(0, 1), (1, 1), (2, 1)]), [.c (.int .i64 0), .c (.int .i64 1), .c (.int .i64 2)], none, 0⟩,
  ⟨1, .N (.build [.int .i64 0, .int .i64 0, .nils] [(0, 1), (1, 1), (2, 1)]), [.c (.int .i64 0), .c (.int .i64 2), .l 0], none, 0⟩,
  ⟨2, .N (.mki (φ 89)), [.l 0], none, 0⟩,
  ⟨3, .calli false (φ 99), [.l 0], none, 0⟩,
  ⟨4, .N .mv, [.l 0], none, 0⟩] := Eq.trans rfl rfl
theorem er84_2 (φ : Nat → Nat) : r84_2 φ = [
  ⟨0, .N (.bsl [.int .i64 0] 5 1 [(0, 1), (1, 1), (2, 1), (3, 1), (4, 1)]), [.c (.int .i64 3), .c (.int .i64 3), .c (.int .i64 1), .c (.int .i64 2), .c (.int .i64 3)], none, 0⟩,
  ⟨1, .calli false (φ 85), [.l 0], none, 0⟩,
  ⟨2, .N .mv, [.l 0], none, 0⟩,
  ⟨3, .N (.ext 0), [.l 0], none, 0⟩,
  ⟨4, .N (.ext 1), [.l 1], none, 0⟩,
  ⟨5, .N .mv, [.l 1], none, 0⟩,
  ⟨6, .N .mv, [.l 1], none, 0⟩] := Eq.trans rfl rfl
theorem er84_3 (φ : Nat → Nat) : r84_3 φ = [
  ⟨0, .N (.bsl [.int .i64 0] 5 1 [(0, 1), (1, 1), (2, 1), (3, 1), (4, 1)]), [.c (.int .i64 3), .c (.int .i64 4), .c (.int .i64 1), .c (.int .i64 2), .c (.int .i64 3)], none, 0⟩,
  ⟨1, .calli false (φ 85), [.l 0], none, 0⟩,
  ⟨2, .N .mv, [.l 0], none, 0⟩,
  ⟨3, .N (.ext 0), [.l 0], none, 0⟩,
  ⟨4, .N (.ext 1), [.l 1], none, 0⟩,
  ⟨5, .N .mv, [.l 1], none, 0⟩,
  ⟨6, .N .mv, [.l 1], none, 0⟩] := Eq.trans rfl rfl
theorem er84_4 (φ : Nat → Nat) : r84_4 φ = [
  ⟨0, .N (.bsl [.int .i64 0] 1 1 [(0, 1)]), [.c (.int .i64 7)], none, 0⟩,
  ⟨1, .N (.build [.int .i64 0, .int .i64 0, .nils] [(2, 1)]), [.l 0], none, 0⟩,
  ⟨2, .N (.mki (φ 89)), [.l 0], none, 0⟩,
  ⟨3, .calli false (φ 103), [.l 0], none, 0⟩,
  ⟨4, .N .mv, [.l 0], none, 0⟩,
  ⟨5, .N (.ext 0), [.l 0], none, 0⟩,
  ⟨6, .N (.ext 1), [.l 1], none, 0⟩,
  ⟨7, .N .mv, [.l 1], none, 0⟩,
  ⟨8, .N .mv, [.l 1], none, 0⟩] := Eq.trans rfl rfl
theorem er84_5 (φ : Nat → Nat) : r84_5 φ = [
  ⟨0, .N .mv, [.n 2], none, 0⟩,
  ⟨1, .calli false (φ 103), [.l 0], none, 0⟩,
  ⟨2, .N .mv, [.l 0], none, 0⟩,
  ⟨3, .N (.ext 0), [.l 0], none, 0⟩,
  ⟨4, .N (.ext 1), [.l 1], none, 0⟩,
  ⟨5, .N .mv, [.l 1], none, 0⟩,
  ⟨6, .N .mv, [.l 1], none, 0⟩] := Eq.trans rfl rfl
theorem er84_6 (φ : Nat → Nat) : r84_6 φ = [
  ⟨0, .N (.build [.int .i64 0, .nils, .nils] [(0, 1)]), [.c (.int .i64 2)], none, 0⟩,
  ⟨1, .N (.build [.int .i64 0, .nils, .nils] [(0, 3)]), [.l 0], none, 0⟩,
  ⟨2, .N (.mki (φ 87)), [.l 0], none, 0⟩,
  ⟨3, .calli false (φ 105), [.l 0], none, 0⟩,
  ⟨4, .N .mv, [.l 0], none, 0⟩,
  ⟨5, .N (.ext 0), [.l 0], none, 0⟩,
  ⟨6, .N (.ext 1), [.l 1], none, 0⟩,
  ⟨7, .N (.alloc [.int .i64 0, .nils, .nils]), [], none, 0⟩,
  ⟨8, .X (.store 3), [.l 0, .l 2], none, 0⟩,
  ⟨9, .N .mv, [.l 2], none, 0⟩] := Eq.trans rfl rfl
theorem er84_7 (φ : Nat → Nat) : r84_7 φ = [
  ⟨0, .N .mv, [.n 2], none, 0⟩,
  ⟨1, .calli false (φ 105), [.l 0], none, 0⟩,
  ⟨2, .N .mv, [.l 0], none, 0⟩,
  ⟨3, .N (.ext 0), [.l 0], none, 0⟩,
  ⟨4, .N (.ext 1), [.l 1], none, 0⟩,
  ⟨5, .N (.alloc [.int .i64 0, .nils, .nils]), [], none, 0⟩,
  ⟨6, .X (.store 3), [.l 0, .l 2], none, 0⟩,
  ⟨7, .N .mv, [.l 2], none, 0⟩] := Eq.trans rfl rfl
theorem er84_8 (φ : Nat → Nat) : r84_8 φ = [
  ⟨0, .N .mv, [.n 3], none, 0⟩,
  ⟨1, .N (.bin .neq), [.l 0, .c (.int .i64 0)], none, 0⟩,
  ⟨2, .N .mv, [.l 0], none, 0⟩,
  ⟨3, .N .mv, [.n 2], some (.l 0, false), 0⟩,
  ⟨4, .N (.eqN 4 false), [.l 0, .c (.nili)], some (.l 1, false), 0⟩,
  ⟨5, .N .pick, [.l 2, .c (.bool true), .l 0], none, 0⟩] := Eq.trans rfl rfl
theorem er84_9 (φ : Nat → Nat) : r84_9 φ = [
  ⟨0, .N .mv, [.c (.bool false)], none, 0⟩] := Eq.trans rfl rfl
theorem er84_10 (φ : Nat → Nat) : r84_10 φ = [
  ⟨0, .N .mv, [.n 1], none, 0⟩,
  ⟨1, .N (.bsl [.int .i64 0] 7 1 [(0, 1), (1, 1), (2, 1), (3, 1), (4, 1), (5, 1), (6, 1)]), [.c (.int .i64 5), .c (.int .i64 0), .c (.int .i64 2), .c (.int .i64 3), .c (.int .i64 0), .c (.int .i64 1), .c (.int .i64 2)], none, 0⟩,
  ⟨2, .calli true (φ 11), [.l 1, .l 0], none, 0⟩,
  ⟨3, .N .mv, [.l 0], none, 0⟩,
  ⟨4, .N .mv, [.n 2], some (.l 0, true), 0⟩,
  ⟨5, .inv [(φ 87, φ 88), (φ 89, φ 90), (φ 91, φ 92), (φ 93, φ 94), (φ 95, φ 96), (φ 97, φ 98)], [.l 0], some (.l 1, true), 0⟩,
  ⟨6, .N (.bin .eql), [.l 0, .c (.int .i64 3)], some (.l 2, true), 0⟩,
  ⟨7, .N .pick, [.l 3, .l 0, .c (.bool false)], none, 0⟩,
  ⟨8, .N .mv, [.l 0], none, 0⟩,
  ⟨9, .N .mv, [.n 4], some (.l 0, true), 0⟩,
  ⟨10, .N (.bin .eql), [.l 0, .c (.int .i64 3)], some (.l 1, true), 0⟩,
  ⟨11, .N .pick, [.l 2, .l 0, .c (.bool false)], none, 0⟩,
  ⟨12, .N .mv, [.l 0], none, 0⟩,
  ⟨13, .N .mv, [.n 6], some (.l 0, true), 0⟩,
  ⟨14, .N .pick, [.l 1, .l 0, .c (.bool false)], none, 0⟩,
  ⟨15, .N .mv, [.l 0], none, 0⟩,
  ⟨16, .N .mv, [.n 7], some (.l 0, true), 0⟩,
  ⟨17, .N (.un .not), [.l 0], some (.l 1, true), 0⟩,
  ⟨18, .N .pick, [.l 2, .l 0, .c (.bool false)], none, 0⟩,
  ⟨19, .N .mv, [.l 0], none, 0⟩,
  ⟨20, .N .mv, [.n 5], some (.l 0, true), 0⟩,
  ⟨21, .N .lenS, [.l 0], some (.l 1, true), 0⟩,
  ⟨22, .N (.bin .eql), [.l 0, .c (.int .i64 1)], some (.l 2, true), 0⟩,
  ⟨23, .N .pick, [.l 3, .l 0, .c (.bool false)], none, 0⟩,
  ⟨24, .N .mv, [.l 0], none, 0⟩,
  ⟨25, .N .mv, [.n 5], some (.l 0, true), 0⟩,
  ⟨26, .N (.idx 1), [.l 0, .c (.int .i64 0)], some (.l 1, true), 0⟩,
  ⟨27, .N .load1, [.l 0], some (.l 2, true), 0⟩,
  ⟨28, .N (.bin .eql), [.l 0, .c (.int .i64 7)], some (.l 3, true), 0⟩,
  ⟨29, .N .pick, [.l 4, .l 0, .c (.bool false)], none, 0⟩,
  ⟨30, .N .mv, [.l 0], none, 0⟩,
  ⟨31, .N (.fadd 0), [.n 8], some (.l 0, true), 0⟩,
  ⟨32, .N .load1, [.l 0], some (.l 1, true), 0⟩,
  ⟨33, .N (.bin .eql), [.l 0, .c (.int .i64 2)], some (.l 2, true), 0⟩,
  ⟨34, .N .pick, [.l 3, .l 0, .c (.bool false)], none, 0⟩,
  ⟨35, .N .mv, [.l 0], none, 0⟩,
  ⟨36, .N .mv, [.n 9], some (.l 0, true), 0⟩,
  ⟨37, .N (.bin .eql), [.l 0, .c (.int .i64 0)], some (.l 1, true), 0⟩,
  ⟨38, .N .pick, [.l 2, .l 0, .c (.bool false)], none, 0⟩,
  ⟨39, .N .mv, [.l 0], none, 0⟩,
  ⟨40, .N .mv, [.n 10], some (.l 0, true), 0⟩,
  ⟨41, .N (.bin .eql), [.l 0, .c (.int .i64 7)], some (.l 1, true), 0⟩,
  ⟨42, .N .pick, [.l 2, .l 0, .c (.bool false)], none, 0⟩,
  ⟨43, .N .mv, [.l 0], none, 0⟩] := Eq.trans rfl rfl
structure C22 (A : AProg) (φ : Nat → Nat) : Prop where
  td : TyD φ
  read : ∀ (v : AV) (l : List Int), IsI v l → l.length < 1000000000 → PVal A (φ 85) [v] (.tup [cvO φ (readR l), .int .i64 (readE l)])
  sub : A.ext (φ 105) = some (subExt φ)
  ints : Has A (φ 99) (f99 φ)
  crow : Has A (φ 120) (f120 φ)
  crows : Has A (φ 121) (f121 φ)
  order : Has A (φ 103) (f103 φ)
  clone : Has A (φ 122) (f122 φ)
  kinds : KH A φ
  same : Has A (φ 11) (f11 φ)
theorem cvV_ne (φ : Nat → Nat) (c : CV) : (cvV φ c).one = true ∧ (cvV φ c).cells = [cvV φ c] ∧ AV.isNilK 4 (cvV φ c) = some false := by
  cases c <;> exact ⟨rfl, rfl, rfl⟩
theorem C22.cread (g : C22 A φ) {v : AV} {l : List Int} (hv : IsI v l) (hn : l.length < 1000000000) : PVal A (φ 85) [v] (.tup [cvO φ (readR l), .int .i64 (readE l)]) := g.read v l hv hn
theorem C22.csame (g : C22 A φ) {v u : AV} {xs ys : List Int} (hv : IsI v xs) (hu : IsI u ys) (hn : xs.length < 1000000000000) : PVal A (φ 11) [v, u] (.bool (decide (xs = ys))) := w_Same g.same v u xs ys hv hu hn
theorem C22.cints (g : C22 A φ) {v : AV} {c : CV} (hv : IsCV φ v c) (hn : (putC c).length < 100000000000) : PVal A (φ 99) [v] (vI (putC c)) := w_Ints g.td g.ints g.crow g.crows hv hn
set_option maxHeartbeats 4000000 in
theorem w_shown22 (h : Has A (φ 84) (f84 φ)) (g : C22 A φ) : PVal A (φ 84) [] (.bool true) := by
  have hr1 : readR [3, 3, 1, 2, 3] = some (.ring [1, 2, 3]) := (readR_put _ _).2 ⟨rfl, trivial⟩
  have hr2 : readR [3, 4, 1, 2, 3] = none := rfl
  have c1 := (g.cints (.gap 0 2 (isI_v [0, 1, 2])) (by simp [putC, putRow])).eq
  have c2 := (g.cread (isI_v [3, 3, 1, 2, 3]) (by simp)).eq
  have c3 := (g.cread (isI_v [3, 4, 1, 2, 3]) (by simp)).eq
  have c4 := (w_OrderGap g.td g.order g.clone 0 0 (isI_v [7]) (by simp)).eq
  have c5 := (w_OrderNo g.td g.order (t := φ 97) (x := .agg [vI [1, 2, 3]]) (by simp [g.td.all]) (by simp [g.td.all])).eq
  have c6 := (w_SubBar g.sub 2 .nils [] [] isI_nil (by simp) (by simp) (by simp) rfl).eq
  have c7 := (w_SubNo g.sub (φ 97) (.agg [vI [1, 2, 3]]) (by simp [g.td.all]) rfl).eq
  have c8 := (g.csame (isI_v [5, 0, 2, 3, 0, 1, 2]) (isI_v [5, 0, 2, 3, 0, 1, 2]) (by simp)).eq
  have e1 : readE [3, 3, 1, 2, 3] = 0 := by simp [readE, hr1]
  have e2 : readE [3, 4, 1, 2, 3] = 3 := by simp [readE, hr2]
  rw [hr1, e1] at c2
  rw [hr2, e2] at c3
  have va1 : viewA [.cells 0 false [.int .i64 0, .int .i64 1, .int .i64 2]] [.iface (φ 89) (.agg [.int .i64 0, .int .i64 2, .sl 0 0 0 3 1 3 true])] = some ([.iface (φ 89) (.agg [.int .i64 0, .int .i64 2, vI [0, 1, 2]])], [.cells 0 true [.int .i64 0, .int .i64 1, .int .i64 2]]) := rfl
  have va2 : viewA [.cells 0 true [.int .i64 0, .int .i64 1, .int .i64 2], .cells 0 false [.int .i64 3, .int .i64 3, .int .i64 1, .int .i64 2, .int .i64 3]] [.sl 1 0 0 5 1 5 true] = some ([vI [3, 3, 1, 2, 3]], [.cells 0 true [.int .i64 0, .int .i64 1, .int .i64 2], .cells 0 true [.int .i64 3, .int .i64 3, .int .i64 1, .int .i64 2, .int .i64 3]]) := rfl
  have va3 : viewA [.cells 0 true [.int .i64 0, .int .i64 1, .int .i64 2], .cells 0 true [.int .i64 3, .int .i64 3, .int .i64 1, .int .i64 2, .int .i64 3], .cells 0 false [.int .i64 3, .int .i64 4, .int .i64 1, .int .i64 2, .int .i64 3]] [.sl 2 0 0 5 1 5 true] = some ([vI [3, 4, 1, 2, 3]], [.cells 0 true [.int .i64 0, .int .i64 1, .int .i64 2], .cells 0 true [.int .i64 3, .int .i64 3, .int .i64 1, .int .i64 2, .int .i64 3], .cells 0 true [.int .i64 3, .int .i64 4, .int .i64 1, .int .i64 2, .int .i64 3]]) := rfl
  have va4 : viewA [.cells 0 true [.int .i64 0, .int .i64 1, .int .i64 2], .cells 0 true [.int .i64 3, .int .i64 3, .int .i64 1, .int .i64 2, .int .i64 3], .cells 0 true [.int .i64 3, .int .i64 4, .int .i64 1, .int .i64 2, .int .i64 3], .cells 0 false [.int .i64 7]] [.iface (φ 89) (.agg [.int .i64 0, .int .i64 0, .sl 3 0 0 1 1 1 true])] = some ([.iface (φ 89) (.agg [.int .i64 0, .int .i64 0, vI [7]])], [.cells 0 true [.int .i64 0, .int .i64 1, .int .i64 2], .cells 0 true [.int .i64 3, .int .i64 3, .int .i64 1, .int .i64 2, .int .i64 3], .cells 0 true [.int .i64 3, .int .i64 4, .int .i64 1, .int .i64 2, .int .i64 3], .cells 0 true [.int .i64 7]]) := rfl
  have va5 : viewA [.cells 0 true [.int .i64 0, .int .i64 1, .int .i64 2], .cells 0 true [.int .i64 3, .int .i64 3, .int .i64 1, .int .i64 2, .int .i64 3], .cells 0 true [.int .i64 3, .int .i64 4, .int .i64 1, .int .i64 2, .int .i64 3], .cells 0 true [.int .i64 7], .cells 0 false [.int .i64 2, .nils, .nils], .cells 0 false [.int .i64 0, .nils, .nils], .cells 0 false [.int .i64 5, .int .i64 0, .int .i64 2, .int .i64 3, .int .i64 0, .int .i64 1, .int .i64 2]] [vI [5, 0, 2, 3, 0, 1, 2], .sl 6 0 0 7 1 7 true] = some ([vI [5, 0, 2, 3, 0, 1, 2], vI [5, 0, 2, 3, 0, 1, 2]], [.cells 0 true [.int .i64 0, .int .i64 1, .int .i64 2], .cells 0 true [.int .i64 3, .int .i64 3, .int .i64 1, .int .i64 2, .int .i64 3], .cells 0 true [.int .i64 3, .int .i64 4, .int .i64 1, .int .i64 2, .int .i64 3], .cells 0 true [.int .i64 7], .cells 0 false [.int .i64 2, .nils, .nils], .cells 0 false [.int .i64 0, .nils, .nils], .cells 0 true [.int .i64 5, .int .i64 0, .int .i64 2, .int .i64 3, .int .i64 0, .int .i64 1, .int .i64 2]]) := rfl
  have hp : putC (.gap 0 2 [0, 1, 2]) = [5, 0, 2, 3, 0, 1, 2] := rfl
  rw [hp] at c1
  simp only [decide_true] at c8
  have hc1 := (isI_v [5, 0, 2, 3, 0, 1, 2]).closed
  have hc2 := (isI_v [5, 0, 2, 3, 0, 1, 2]).one
  have hc3 := (isI_v [1, 2, 3]).closed
  have hc4 := (isI_v [1, 2, 3]).one
  have hc5 := (isI_v [7]).one
  have hc6 : (cI [7])[0]? = some (.int .i64 7) := rfl
  simp only [cvO, cvV] at c2 c3
  have hz : rR [] = .nils := rfl
  rw [hz] at c6
  have hk := g.kinds.kRing
  have hi1 : ∀ t v, AV.isNilK 4 (.iface t v) = some false := fun _ _ => rfl
  have hi2 : AV.isNilK 4 .nili = some true := rfl
  refine pval_has h rfl ?_
  simp only [b84, f84]
  simp [-List.getD_eq_getElem?_getD, -Int.ofNat_toNat, -getElem?_pos, er84_0, er84_1, er84_2, er84_3, er84_4, er84_5, er84_6, er84_7, er84_8, er84_9, er84_10, va1, va2, va3, va4, va5, c8, c1, c2, c3, c4, c5, c6, c7, viewA_closed, closeds_cons, hc1, hc2, hc3, hc4, hc5, setAt, subNo, hi1, hi2, List.lookup, g.td.allb]
  refine pcall_has hk rfl ?_
  simp only [b98, f98]
  simp [-List.getD_eq_getElem?_getD, -Int.ofNat_toNat, -getElem?_pos, er98_0, er98_1, hc4, hc6, resK, resVs, resV, pack]
end Go.Ai.G
/- CertReads: which numbers are a certificate's. -/
namespace Go.Ai.G
open Go.Ai
set_option maxRecDepth 100000
set_option linter.unusedSimpArgs false
set_option linter.unusedVariables false
variable {A : AProg} {φ : Nat → Nat}
attribute [local simp ↓] getD_z getD_s hid_k hid_o hid_q hid_v PO_nil PO_none PO_grd PD_nil PD_none PD_grd PDO_N PDO_X PDO_call PDO_calli PDO_callv PSX_N PSX_X PSX_call PSX_calli PSX_callv PSX_inv
  PSX_callp PSX_panic PDO_inv PStep_inv thenC_pan blockC_pan loopC_pan endX_ret endX_norm endX_pan PStep_N PStep_X PStep_call PStep_calli PC_skip PC_lab PC_ret PC_exit PC_reg PC_draw
  PC_seq PC_block PC_loop PC_scope PC_cond thenC_norm thenC_ret thenC_exit blockC_norm blockC_ret blockC_exit loopC_norm loopC_ret loopC_exit endR_ret endR_norm
attribute [local simp] gz PDX_free PDX_eq KI_some n_mki n_tas0 n_tasf PStep_callv resK_none resK_t resK_tt KNO_val KNO_new KNO_ite KNO_map KXO_some KXO_ite KVA_t KVA_f KG_skip KG_tt KG_ff KG_tf KG_ft
  KB_true KB_false KNOD_val KNOD_new KNOD_ite n_mv n_pick n_bin n_eqB n_eqN n_eqS n_un n_conv n_fadd n_faddV n_fld1 n_fldN n_idx n_idxA n_idxV n_idxAV n_ext n_lenS n_lenS0 n_lenV
  n_lenT n_lenA n_min n_max n_build n_mkfn n_slc n_slc0 n_slcV n_slcA n_load1 n_loadN n_load1V n_loadNV n_alloc n_box n_bsl n_mksl n_nilcP n_nilcV n_nilcI n_nilcF x_store x_clear0
  x_clear b_add b_sub b_mul b_eql b_neq b_lss b_leq b_gtr b_geq b_and16 unV ntouch gather hide unhide evalOpd applyOuts int_bne int_beq ite_bool ite_int one_bool cells_bool one_int
  cells_int one_str cells_str one_nilp cells_nilp one_ptr cells_ptr one_nils cells_nils one_sl cells_sl one_nilf cells_nilf one_fn cells_fn one_nili cells_nili one_mp cells_mp
  one_nilm cells_nilm one_iface cells_iface one_vs cells_vs one_vp cells_vp cells_agg Nat.testBit setAt_1 setAt_2 closeds_nil closeds_cons closed_bool closed_int closed_str
  closed_nilp closed_nils closed_nilm closed_nilf closed_nili closed_agg closed_tup closed_vs closed_vp closed_iface closed_fn closeds_cI closeds_cE viewA_closed viewR_closed AV.scal
  AV.scal0 fillA repA part_bool part_int part_str part_nilp part_ptr part_nils part_sl part_nilm part_mp part_nilf part_fn part_nili part_iface part_agg part_vs part_vp viewA_sl1
  vaSl_cells wrap_0 wrap_1 wrap_2 wrap_m1 set_last get_last
structure I22 (A : AProg) (φ : Nat → Nat) : Prop extends C22 A φ where
  is : Has A (φ 86) (f86 φ)
  rrow : Has A (φ 116) (f116 φ)
  rrows : Has A (φ 117) (f117 φ)
  rthings : Has A (φ 119) (f119 φ)
  rtrees : Has A (φ 118) (f118 φ)
/-- A row, cut, as a row of one's own. -/
theorem cutI {P : Nat} {H : Heap} {v : AV} {l : List Int} (hv : IsI v l) (k : Nat) (hk : k ≤ 1000000) (b : Nat) (hP : P ≤ H.length) : ∃ v' o H', (∀ (i : IntKind) rd, nstep (.slc 1 false true false) [v, .int i ((min l.length k : Nat) : Int)] rd = some (.val v')) ∧
    xstep (.app 1 8) [.sl b 0 0 0 1 0 true, v'] H = some (o, H') ∧ OwnI false P H' o (l.take k) ∧ (∀ b, b < P → H'[b]? = H[b]?) ∧ H.length ≤ H'.length := by
  obtain ⟨v', s1, s2, _⟩ := (hv.rd (P := 0) (H := H)).take (n := min l.length k) (by omega)
  have e : l.take (min l.length k) = l.take k := by
    rcases Nat.le_total l.length k with h | h
    · rw [Nat.min_eq_left h, List.take_of_length_le h, List.take_of_length_le (Nat.le_refl _)]
    · rw [Nat.min_eq_right h]
  rw [e] at s2
  obtain ⟨o, H', x1, x2, x3, x4⟩ := ownI_appR (ownI_empty P H b 0 0) s2 hP (by simp; omega)
  exact ⟨v', o, H', s1, x1, by simpa using x2, x3, x4⟩
end Go.Ai.G
/- CertCut: no certificate's numbers begin with another one's. -/
namespace Go.Ai.G
open Go.Ai
set_option maxRecDepth 100000
set_option linter.unusedSimpArgs false
set_option linter.unusedVariables false
variable {A : AProg} {φ : Nat → Nat}
attribute [local simp ↓] getD_z getD_s hid_k hid_o hid_q hid_v PO_nil PO_none PO_grd PD_nil PD_none PD_grd PDO_N PDO_X PDO_call PDO_calli PDO_callv PSX_N PSX_X PSX_call PSX_calli PSX_callv PSX_inv
  PSX_callp PSX_panic PDO_inv PStep_inv thenC_pan blockC_pan loopC_pan endX_ret endX_norm endX_pan PStep_N PStep_X PStep_call PStep_calli PC_skip PC_lab PC_ret PC_exit PC_reg PC_draw
  PC_seq PC_block PC_loop PC_scope PC_cond thenC_norm thenC_ret thenC_exit blockC_norm blockC_ret blockC_exit loopC_norm loopC_ret loopC_exit endR_ret endR_norm
attribute [local simp] gz PDX_free PDX_eq KI_some n_mki n_tas0 n_tasf PStep_callv resK_none resK_t resK_tt KNO_val KNO_new KNO_ite KNO_map KXO_some KXO_ite KVA_t KVA_f KG_skip KG_tt KG_ff KG_tf KG_ft
  KB_true KB_false KNOD_val KNOD_new KNOD_ite n_mv n_pick n_bin n_eqB n_eqN n_eqS n_un n_conv n_fadd n_faddV n_fld1 n_fldN n_idx n_idxA n_idxV n_idxAV n_ext n_lenS n_lenS0 n_lenV
  n_lenT n_lenA n_min n_max n_build n_mkfn n_slc n_slc0 n_slcV n_slcA n_load1 n_loadN n_load1V n_loadNV n_alloc n_box n_bsl n_mksl n_nilcP n_nilcV n_nilcI n_nilcF x_store x_clear0
  x_clear b_add b_sub b_mul b_eql b_neq b_lss b_leq b_gtr b_geq b_and16 unV ntouch gather hide unhide evalOpd applyOuts int_bne int_beq ite_bool ite_int one_bool cells_bool one_int
  cells_int one_str cells_str one_nilp cells_nilp one_ptr cells_ptr one_nils cells_nils one_sl cells_sl one_nilf cells_nilf one_fn cells_fn one_nili cells_nili one_mp cells_mp
  one_nilm cells_nilm one_iface cells_iface one_vs cells_vs one_vp cells_vp cells_agg Nat.testBit setAt_1 setAt_2 closeds_nil closeds_cons closed_bool closed_int closed_str
  closed_nilp closed_nils closed_nilm closed_nilf closed_nili closed_agg closed_tup closed_vs closed_vp closed_iface closed_fn closeds_cI closeds_cE viewA_closed viewR_closed AV.scal
  AV.scal0 fillA repA part_bool part_int part_str part_nilp part_ptr part_nils part_sl part_nilm part_mp part_nilf part_fn part_nili part_iface part_agg part_vs part_vp viewA_sl1
  vaSl_cells wrap_0 wrap_1 wrap_2 wrap_m1 set_last get_last
end Go.Ai.G
/- ref22: Row, Rows, Sub: the parts of a certificate's numbers. -/
namespace Go.Ai.G
open Go.Ai
set_option maxRecDepth 100000
set_option linter.unusedSimpArgs false
set_option linter.unusedVariables false
variable {A : AProg} {φ : Nat → Nat}
attribute [local simp ↓] getD_z getD_s hid_k hid_o hid_q hid_v PO_nil PO_none PO_grd PD_nil PD_none PD_grd PDO_N PDO_X PDO_call PDO_calli PDO_callv PSX_N PSX_X PSX_call PSX_calli PSX_callv PSX_inv
  PSX_callp PSX_panic PDO_inv PStep_inv thenC_pan blockC_pan loopC_pan endX_ret endX_norm endX_pan PStep_N PStep_X PStep_call PStep_calli PC_skip PC_lab PC_ret PC_exit PC_reg PC_draw
  PC_seq PC_block PC_loop PC_scope PC_cond thenC_norm thenC_ret thenC_exit blockC_norm blockC_ret blockC_exit loopC_norm loopC_ret loopC_exit endR_ret endR_norm
attribute [local simp] gz PDX_free PDX_eq KI_some n_mki n_tas0 n_tasf PStep_callv resK_none resK_t resK_tt KNO_val KNO_new KNO_ite KNO_map KXO_some KXO_ite KVA_t KVA_f KG_skip KG_tt KG_ff KG_tf KG_ft
  KB_true KB_false KNOD_val KNOD_new KNOD_ite n_mv n_pick n_bin n_eqB n_eqN n_eqS n_un n_conv n_fadd n_faddV n_fld1 n_fldN n_idx n_idxA n_idxV n_idxAV n_ext n_lenS n_lenS0 n_lenV
  n_lenT n_lenA n_min n_max n_build n_mkfn n_slc n_slc0 n_slcV n_slcA n_load1 n_loadN n_load1V n_loadNV n_alloc n_box n_bsl n_mksl n_nilcP n_nilcV n_nilcI n_nilcF x_store x_clear0
  x_clear b_add b_sub b_mul b_eql b_neq b_lss b_leq b_gtr b_geq b_and16 unV ntouch gather hide unhide evalOpd applyOuts int_bne int_beq ite_bool ite_int one_bool cells_bool one_int
  cells_int one_str cells_str one_nilp cells_nilp one_ptr cells_ptr one_nils cells_nils one_sl cells_sl one_nilf cells_nilf one_fn cells_fn one_nili cells_nili one_mp cells_mp
  one_nilm cells_nilm one_iface cells_iface one_vs cells_vs one_vp cells_vp cells_agg Nat.testBit setAt_1 setAt_2 closeds_nil closeds_cons closed_bool closed_int closed_str
  closed_nilp closed_nils closed_nilm closed_nilf closed_nili closed_agg closed_tup closed_vs closed_vp closed_iface closed_fn closeds_cI closeds_cE viewA_closed viewR_closed AV.scal
  AV.scal0 fillA repA part_bool part_int part_str part_nilp part_ptr part_nils part_sl part_nilm part_mp part_nilf part_fn part_nili part_iface part_agg part_vs part_vp viewA_sl1
  vaSl_cells wrap_0 wrap_1 wrap_2 wrap_m1 set_last get_last
end Go.Ai.G
/- CertAsks: a subdivision is told of a Bar alone, an order of Pages and a Gap alone. -/
namespace Go.Ai.G
open Go.Ai
set_option maxRecDepth 100000
set_option linter.unusedSimpArgs false
set_option linter.unusedVariables false
variable {A : AProg} {φ : Nat → Nat}
attribute [local simp ↓] getD_z getD_s hid_k hid_o hid_q hid_v PO_nil PO_none PO_grd PD_nil PD_none PD_grd PDO_N PDO_X PDO_call PDO_calli PDO_callv PSX_N PSX_X PSX_call PSX_calli PSX_callv PSX_inv
  PSX_callp PSX_panic PDO_inv PStep_inv thenC_pan blockC_pan loopC_pan endX_ret endX_norm endX_pan PStep_N PStep_X PStep_call PStep_calli PC_skip PC_lab PC_ret PC_exit PC_reg PC_draw
  PC_seq PC_block PC_loop PC_scope PC_cond thenC_norm thenC_ret thenC_exit blockC_norm blockC_ret blockC_exit loopC_norm loopC_ret loopC_exit endR_ret endR_norm
attribute [local simp] gz PDX_free PDX_eq KI_some n_mki n_tas0 n_tasf PStep_callv resK_none resK_t resK_tt KNO_val KNO_new KNO_ite KNO_map KXO_some KXO_ite KVA_t KVA_f KG_skip KG_tt KG_ff KG_tf KG_ft
  KB_true KB_false KNOD_val KNOD_new KNOD_ite n_mv n_pick n_bin n_eqB n_eqN n_eqS n_un n_conv n_fadd n_faddV n_fld1 n_fldN n_idx n_idxA n_idxV n_idxAV n_ext n_lenS n_lenS0 n_lenV
  n_lenT n_lenA n_min n_max n_build n_mkfn n_slc n_slc0 n_slcV n_slcA n_load1 n_loadN n_load1V n_loadNV n_alloc n_box n_bsl n_mksl n_nilcP n_nilcV n_nilcI n_nilcF x_store x_clear0
  x_clear b_add b_sub b_mul b_eql b_neq b_lss b_leq b_gtr b_geq b_and16 unV ntouch gather hide unhide evalOpd applyOuts int_bne int_beq ite_bool ite_int one_bool cells_bool one_int
  cells_int one_str cells_str one_nilp cells_nilp one_ptr cells_ptr one_nils cells_nils one_sl cells_sl one_nilf cells_nilf one_fn cells_fn one_nili cells_nili one_mp cells_mp
  one_nilm cells_nilm one_iface cells_iface one_vs cells_vs one_vp cells_vp cells_agg Nat.testBit setAt_1 setAt_2 closeds_nil closeds_cons closed_bool closed_int closed_str
  closed_nilp closed_nils closed_nilm closed_nilf closed_nili closed_agg closed_tup closed_vs closed_vp closed_iface closed_fn closeds_cI closeds_cE viewA_closed viewR_closed AV.scal
  AV.scal0 fillA repA part_bool part_int part_str part_nilp part_ptr part_nils part_sl part_nilm part_mp part_nilf part_fn part_nili part_iface part_agg part_vs part_vp viewA_sl1
  vaSl_cells wrap_0 wrap_1 wrap_2 wrap_m1 set_last get_last
structure K22 (A : AProg) (φ : Nat → Nat) : Prop extends I22 A φ where
  rRow : Has A (φ 112) (f112 φ)
  rRows : Has A (φ 123) (f123 φ)
  rSub : Has A (φ 113) (f113 φ)
  sameRows : Has A (φ 70) (f70 φ)
end Go.Ai.G
/- ref22: PutRow, PutRows. -/
namespace Go.Ai.G
open Go.Ai
set_option maxRecDepth 100000
set_option linter.unusedSimpArgs false
set_option linter.unusedVariables false
variable {A : AProg} {φ : Nat → Nat}
attribute [local simp ↓] getD_z getD_s hid_k hid_o hid_q hid_v PO_nil PO_none PO_grd PD_nil PD_none PD_grd PDO_N PDO_X PDO_call PDO_calli PDO_callv PSX_N PSX_X PSX_call PSX_calli PSX_callv PSX_inv
  PSX_callp PSX_panic PDO_inv PStep_inv thenC_pan blockC_pan loopC_pan endX_ret endX_norm endX_pan PStep_N PStep_X PStep_call PStep_calli PC_skip PC_lab PC_ret PC_exit PC_reg PC_draw
  PC_seq PC_block PC_loop PC_scope PC_cond thenC_norm thenC_ret thenC_exit blockC_norm blockC_ret blockC_exit loopC_norm loopC_ret loopC_exit endR_ret endR_norm
attribute [local simp] gz PDX_free PDX_eq KI_some n_mki n_tas0 n_tasf PStep_callv resK_none resK_t resK_tt KNO_val KNO_new KNO_ite KNO_map KXO_some KXO_ite KVA_t KVA_f KG_skip KG_tt KG_ff KG_tf KG_ft
  KB_true KB_false KNOD_val KNOD_new KNOD_ite n_mv n_pick n_bin n_eqB n_eqN n_eqS n_un n_conv n_fadd n_faddV n_fld1 n_fldN n_idx n_idxA n_idxV n_idxAV n_ext n_lenS n_lenS0 n_lenV
  n_lenT n_lenA n_min n_max n_build n_mkfn n_slc n_slc0 n_slcV n_slcA n_load1 n_loadN n_load1V n_loadNV n_alloc n_box n_bsl n_mksl n_nilcP n_nilcV n_nilcI n_nilcF x_store x_clear0
  x_clear b_add b_sub b_mul b_eql b_neq b_lss b_leq b_gtr b_geq b_and16 unV ntouch gather hide unhide evalOpd applyOuts int_bne int_beq ite_bool ite_int one_bool cells_bool one_int
  cells_int one_str cells_str one_nilp cells_nilp one_ptr cells_ptr one_nils cells_nils one_sl cells_sl one_nilf cells_nilf one_fn cells_fn one_nili cells_nili one_mp cells_mp
  one_nilm cells_nilm one_iface cells_iface one_vs cells_vs one_vp cells_vp cells_agg Nat.testBit setAt_1 setAt_2 closeds_nil closeds_cons closed_bool closed_int closed_str
  closed_nilp closed_nils closed_nilm closed_nilf closed_nili closed_agg closed_tup closed_vs closed_vp closed_iface closed_fn closeds_cI closeds_cE viewA_closed viewR_closed AV.scal
  AV.scal0 fillA repA part_bool part_int part_str part_nilp part_ptr part_nils part_sl part_nilm part_mp part_nilf part_fn part_nili part_iface part_agg part_vs part_vp viewA_sl1
  vaSl_cells wrap_0 wrap_1 wrap_2 wrap_m1 set_last get_last
theorem er101_0 (φ : Nat → Nat) : r101_0 φ = [
  ⟨0, .N .mv, [.c (.nils)], none, 0⟩] := Eq.trans rfl rfl
theorem er101_1 (φ : Nat → Nat) : r101_1 φ = [
  ⟨0, .N .mv, [.n 0], none, 0⟩,
  ⟨1, .N .lenS, [.l 0], none, 0⟩,
  ⟨2, .N (.bsl [.int .i64 0] 1 1 [(0, 1)]), [.l 0], none, 0⟩,
  ⟨3, .N .mv, [.n 0], none, 0⟩,
  ⟨4, .X (.app 1 8), [.l 1, .l 0], none, 0⟩,
  ⟨5, .N .mv, [.l 0], none, 0⟩] := Eq.trans rfl rfl
theorem w_PutRow (h : Has A (φ 101) (f101 φ)) {v : AV} {l : List Int} (hv : IsI v l) (hn : l.length < 1000000000000) : PVal A (φ 101) [v] (vI (putRow l)) := by
  have l1 := hv.len
  obtain ⟨o, H', x1, x2, x3, x4⟩ := ownI_appI (own_lit false 0 [] (by simp) [(l.length : Int)] (by simp) _ rfl 1 rfl) hv (by simp) (by simp; omega)
  have hvw := x2.view
  simp only [rv_false] at hvw
  have x1' : xstep (.app 1 8) [.sl 0 0 0 1 1 1 true, v] [.cells 0 false [.int .i64 (l.length : Int)]] = some (o, H') := x1
  refine pval_has h rfl ?_
  simp only [b101, f101]
  simp [-List.getD_eq_getElem?_getD, -Int.ofNat_toNat, -getElem?_pos, er101_0, er101_1, l1, x1', Own.one x2, Own.cells x2, Own.part x2, resK, resVs, resV, pack]
  exact hvw
end Go.Ai.G
/- CertPages. -/
namespace Go.Ai.G
open Go.Ai
set_option maxRecDepth 100000
set_option linter.unusedSimpArgs false
set_option linter.unusedVariables false
variable {A : AProg} {φ : Nat → Nat}
attribute [local simp ↓] getD_z getD_s hid_k hid_o hid_q hid_v PO_nil PO_none PO_grd PD_nil PD_none PD_grd PDO_N PDO_X PDO_call PDO_calli PDO_callv PSX_N PSX_X PSX_call PSX_calli PSX_callv PSX_inv
  PSX_callp PSX_panic PDO_inv PStep_inv thenC_pan blockC_pan loopC_pan endX_ret endX_norm endX_pan PStep_N PStep_X PStep_call PStep_calli PC_skip PC_lab PC_ret PC_exit PC_reg PC_draw
  PC_seq PC_block PC_loop PC_scope PC_cond thenC_norm thenC_ret thenC_exit blockC_norm blockC_ret blockC_exit loopC_norm loopC_ret loopC_exit endR_ret endR_norm
attribute [local simp] gz PDX_free PDX_eq KI_some n_mki n_tas0 n_tasf PStep_callv resK_none resK_t resK_tt KNO_val KNO_new KNO_ite KNO_map KXO_some KXO_ite KVA_t KVA_f KG_skip KG_tt KG_ff KG_tf KG_ft
  KB_true KB_false KNOD_val KNOD_new KNOD_ite n_mv n_pick n_bin n_eqB n_eqN n_eqS n_un n_conv n_fadd n_faddV n_fld1 n_fldN n_idx n_idxA n_idxV n_idxAV n_ext n_lenS n_lenS0 n_lenV
  n_lenT n_lenA n_min n_max n_build n_mkfn n_slc n_slc0 n_slcV n_slcA n_load1 n_loadN n_load1V n_loadNV n_alloc n_box n_bsl n_mksl n_nilcP n_nilcV n_nilcI n_nilcF x_store x_clear0
  x_clear b_add b_sub b_mul b_eql b_neq b_lss b_leq b_gtr b_geq b_and16 unV ntouch gather hide unhide evalOpd applyOuts int_bne int_beq ite_bool ite_int one_bool cells_bool one_int
  cells_int one_str cells_str one_nilp cells_nilp one_ptr cells_ptr one_nils cells_nils one_sl cells_sl one_nilf cells_nilf one_fn cells_fn one_nili cells_nili one_mp cells_mp
  one_nilm cells_nilm one_iface cells_iface one_vs cells_vs one_vp cells_vp cells_agg Nat.testBit setAt_1 setAt_2 closeds_nil closeds_cons closed_bool closed_int closed_str
  closed_nilp closed_nils closed_nilm closed_nilf closed_nili closed_agg closed_tup closed_vs closed_vp closed_iface closed_fn closeds_cI closeds_cE viewA_closed viewR_closed AV.scal
  AV.scal0 fillA repA part_bool part_int part_str part_nilp part_ptr part_nils part_sl part_nilm part_mp part_nilf part_fn part_nili part_iface part_agg part_vs part_vp viewA_sl1
  vaSl_cells wrap_0 wrap_1 wrap_2 wrap_m1 set_last get_last
structure L22 (A : AProg) (φ : Nat → Nat) : Prop extends K22 A φ where
  putRow : Has A (φ 101) (f101 φ)
  putRows : Has A (φ 102) (f102 φ)
end Go.Ai.G
/- ref09.Same; CertBar. -/
namespace Go.Ai.G
open Go.Ai
set_option maxRecDepth 100000
set_option linter.unusedSimpArgs false
set_option linter.unusedVariables false
variable {A : AProg} {φ : Nat → Nat}
attribute [local simp ↓] getD_z getD_s hid_k hid_o hid_q hid_v PO_nil PO_none PO_grd PD_nil PD_none PD_grd PDO_N PDO_X PDO_call PDO_calli PDO_callv PSX_N PSX_X PSX_call PSX_calli PSX_callv PSX_inv
  PSX_callp PSX_panic PDO_inv PStep_inv thenC_pan blockC_pan loopC_pan endX_ret endX_norm endX_pan PStep_N PStep_X PStep_call PStep_calli PC_skip PC_lab PC_ret PC_exit PC_reg PC_draw
  PC_seq PC_block PC_loop PC_scope PC_cond thenC_norm thenC_ret thenC_exit blockC_norm blockC_ret blockC_exit loopC_norm loopC_ret loopC_exit endR_ret endR_norm
attribute [local simp] gz PDX_free PDX_eq KI_some n_mki n_tas0 n_tasf PStep_callv resK_none resK_t resK_tt KNO_val KNO_new KNO_ite KNO_map KXO_some KXO_ite KVA_t KVA_f KG_skip KG_tt KG_ff KG_tf KG_ft
  KB_true KB_false KNOD_val KNOD_new KNOD_ite n_mv n_pick n_bin n_eqB n_eqN n_eqS n_un n_conv n_fadd n_faddV n_fld1 n_fldN n_idx n_idxA n_idxV n_idxAV n_ext n_lenS n_lenS0 n_lenV
  n_lenT n_lenA n_min n_max n_build n_mkfn n_slc n_slc0 n_slcV n_slcA n_load1 n_loadN n_load1V n_loadNV n_alloc n_box n_bsl n_mksl n_nilcP n_nilcV n_nilcI n_nilcF x_store x_clear0
  x_clear b_add b_sub b_mul b_eql b_neq b_lss b_leq b_gtr b_geq b_and16 unV ntouch gather hide unhide evalOpd applyOuts int_bne int_beq ite_bool ite_int one_bool cells_bool one_int
  cells_int one_str cells_str one_nilp cells_nilp one_ptr cells_ptr one_nils cells_nils one_sl cells_sl one_nilf cells_nilf one_fn cells_fn one_nili cells_nili one_mp cells_mp
  one_nilm cells_nilm one_iface cells_iface one_vs cells_vs one_vp cells_vp cells_agg Nat.testBit setAt_1 setAt_2 closeds_nil closeds_cons closed_bool closed_int closed_str
  closed_nilp closed_nils closed_nilm closed_nilf closed_nili closed_agg closed_tup closed_vs closed_vp closed_iface closed_fn closeds_cI closeds_cE viewA_closed viewR_closed AV.scal
  AV.scal0 fillA repA part_bool part_int part_str part_nilp part_ptr part_nils part_sl part_nilm part_mp part_nilf part_fn part_nili part_iface part_agg part_vs part_vp viewA_sl1
  vaSl_cells wrap_0 wrap_1 wrap_2 wrap_m1 set_last get_last
structure M22 (A : AProg) (φ : Nat → Nat) : Prop extends L22 A φ where
  same09 : Has A (φ 106) (f106 φ)
end Go.Ai.G
/- Rows of cells of k numbers; ref22: PutTrees, PutCuts. -/
namespace Go.Ai.G
open Go.Ai
set_option maxRecDepth 100000
set_option linter.unusedSimpArgs false
set_option linter.unusedVariables false
variable {A : AProg} {φ : Nat → Nat}
attribute [local simp ↓] getD_z getD_s hid_k hid_o hid_q hid_v PO_nil PO_none PO_grd PD_nil PD_none PD_grd PDO_N PDO_X PDO_call PDO_calli PDO_callv PSX_N PSX_X PSX_call PSX_calli PSX_callv PSX_inv
  PSX_callp PSX_panic PDO_inv PStep_inv thenC_pan blockC_pan loopC_pan endX_ret endX_norm endX_pan PStep_N PStep_X PStep_call PStep_calli PC_skip PC_lab PC_ret PC_exit PC_reg PC_draw
  PC_seq PC_block PC_loop PC_scope PC_cond thenC_norm thenC_ret thenC_exit blockC_norm blockC_ret blockC_exit loopC_norm loopC_ret loopC_exit endR_ret endR_norm
attribute [local simp] gz PDX_free PDX_eq KI_some n_mki n_tas0 n_tasf PStep_callv resK_none resK_t resK_tt KNO_val KNO_new KNO_ite KNO_map KXO_some KXO_ite KVA_t KVA_f KG_skip KG_tt KG_ff KG_tf KG_ft
  KB_true KB_false KNOD_val KNOD_new KNOD_ite n_mv n_pick n_bin n_eqB n_eqN n_eqS n_un n_conv n_fadd n_faddV n_fld1 n_fldN n_idx n_idxA n_idxV n_idxAV n_ext n_lenS n_lenS0 n_lenV
  n_lenT n_lenA n_min n_max n_build n_mkfn n_slc n_slc0 n_slcV n_slcA n_load1 n_loadN n_load1V n_loadNV n_alloc n_box n_bsl n_mksl n_nilcP n_nilcV n_nilcI n_nilcF x_store x_clear0
  x_clear b_add b_sub b_mul b_eql b_neq b_lss b_leq b_gtr b_geq b_and16 unV ntouch gather hide unhide evalOpd applyOuts int_bne int_beq ite_bool ite_int one_bool cells_bool one_int
  cells_int one_str cells_str one_nilp cells_nilp one_ptr cells_ptr one_nils cells_nils one_sl cells_sl one_nilf cells_nilf one_fn cells_fn one_nili cells_nili one_mp cells_mp
  one_nilm cells_nilm one_iface cells_iface one_vs cells_vs one_vp cells_vp cells_agg Nat.testBit setAt_1 setAt_2 closeds_nil closeds_cons closed_bool closed_int closed_str
  closed_nilp closed_nils closed_nilm closed_nilf closed_nili closed_agg closed_tup closed_vs closed_vp closed_iface closed_fn closeds_cI closeds_cE viewA_closed viewR_closed AV.scal
  AV.scal0 fillA repA part_bool part_int part_str part_nilp part_ptr part_nils part_sl part_nilm part_mp part_nilf part_fn part_nili part_iface part_agg part_vs part_vp viewA_sl1
  vaSl_cells wrap_0 wrap_1 wrap_2 wrap_m1 set_last get_last
/-- A row, as a value, of things of k numbers each. -/
def IsN (k : Nat) (v : AV) (xs : List (List Int)) : Prop := (∀ x ∈ xs, x.length = k) ∧ ((v = .nils ∧ xs = []) ∨ v = .vs xs.length k (cI xs.flatten))
section
variable {k : Nat} {v : AV} {xs : List (List Int)}
theorem IsN.one (h : IsN k v xs) : v.one = true := by rcases h.2 with ⟨rfl, _⟩ | rfl <;> rfl
theorem IsN.cells (h : IsN k v xs) : v.cells = [v] := by rcases h.2 with ⟨rfl, _⟩ | rfl <;> rfl
theorem IsN.part (h : IsN k v xs) : v.part = true := by rcases h.2 with ⟨rfl, _⟩ | rfl <;> rfl
theorem IsN.closed (h : IsN k v xs) : v.closed = true := by
  rcases h.2 with ⟨rfl, _⟩ | rfl
  · rfl
  · rw [closed_vs]; exact closeds_cI _
theorem IsN.len (h : IsN k v xs) (rd : Nat → Option Ob) : nstep .lenS [v] rd = some (.val (.int .i64 xs.length)) := by
  rcases h.2 with ⟨rfl, rfl⟩ | rfl <;> rfl
theorem IsN.at (h : IsN k v xs) (hk : 0 < k) {i : Nat} (hi : i < xs.length) : (∀ (q : IntKind) rd, nstep (.idx k) [v, .int q (i : Int)] rd = some (.val (.vp (cI xs.flatten) (i * k)))) ∧ (∀ rd, nstep (.loadN k) [.vp (cI xs.flatten) (i * k)] rd = some (.val (.agg (cI xs[i])))) := by
  have hc := rC_at hk hi h.1
  refine ⟨fun q rd => ?_, hc.2⟩
  rcases h.2 with ⟨rfl, rfl⟩ | rfl
  · simp at hi
  · have := hc.1 q rd
    have h0 : ¬ xs.length = 0 := by omega
    simp only [rC, rv, h0, and_false, if_false] at this
    exact this
theorem flat_take (hx : ∀ x ∈ xs, x.length = k) (m : Nat) : (xs.take m).flatten = xs.flatten.take (m * k) := by
  induction xs generalizing m with
  | nil => simp
  | cons x xs ih =>
    cases m with
    | zero => simp
    | succ m =>
      have h1 : x.length = k := hx x List.mem_cons_self
      rw [List.take_succ_cons, List.flatten_cons, List.flatten_cons, ih (fun y hy => hx y (List.mem_cons_of_mem _ hy)) m, List.take_append]
      rw [List.take_of_length_le (l := x) (by rw [h1, Nat.add_mul]; omega), h1, show (m + 1) * k - k = m * k by rw [Nat.add_mul]; omega]
theorem IsN.take (h : IsN k v xs) {m : Nat} (hm : m ≤ xs.length) : ∃ v', (∀ (q : IntKind) rd, nstep (.slc k false true false) [v, .int q (m : Int)] rd = some (.val v')) ∧ IsN k v' (xs.take m) := by
  have hx' : ∀ x ∈ xs.take m, x.length = k := fun x hx => h.1 x (List.mem_of_mem_take hx)
  rcases h.2 with ⟨rfl, rfl⟩ | rfl
  · have : m = 0 := by simpa using hm
    subst this
    exact ⟨.nils, fun q rd => by rw [n_slc0]; rfl, by simp, .inl ⟨rfl, rfl⟩⟩
  · have hl : (xs.take m).length = m := by rw [List.length_take]; omega
    refine ⟨.vs (xs.take m).length k (cI (xs.take m).flatten), fun q rd => ?_, hx', .inr rfl⟩
    rw [n_slcV]
    have e : bounds3 xs.length xs.length false true false [.int q (m : Int)] = some (0, m, xs.length) := by
      simp [bounds3, intArg]; omega
    rw [e]
    simp only [Option.map_some, Bool.false_eq_true, false_and, if_false, Nat.zero_mul, List.drop_zero, Nat.sub_zero]
    rw [hl, flat_take h.1, cI_take]
end
/-- Rows of such rows. -/
def IsT (v : AV) (ts : List (List (List Int))) : Prop := (v = .nils ∧ ts = []) ∨ ∃ l : List AV, v = .vs ts.length 1 l ∧ l.length = ts.length ∧ AV.closeds l = true ∧ ∀ (j : Nat) x t, l[j]? = some x → ts[j]? = some t → IsN 3 x t
theorem IsT.len {v : AV} {ts : List (List (List Int))} (h : IsT v ts) (rd : Nat → Option Ob) : nstep .lenS [v] rd = some (.val (.int .i64 ts.length)) := by
  rcases h with ⟨rfl, rfl⟩ | ⟨l, rfl, _⟩ <;> rfl
theorem IsT.one {v : AV} {ts : List (List (List Int))} (h : IsT v ts) : v.one = true := by
  rcases h with ⟨rfl, rfl⟩ | ⟨l, rfl, _⟩ <;> rfl
theorem IsT.closed {v : AV} {ts : List (List (List Int))} (h : IsT v ts) : v.closed = true := by
  rcases h with ⟨rfl, _⟩ | ⟨l, rfl, _, hc, _⟩
  · rfl
  · exact hc
theorem IsT.at {v : AV} {ts : List (List (List Int))} (h : IsT v ts) {i : Nat} (hi : i < ts.length) : ∃ l x, (∀ (k : IntKind) rd, nstep (.idx 1) [v, .int k (i : Int)] rd = some (.val (.vp l i))) ∧ l[i]? = some x ∧ IsN 3 x ts[i] := by
  rcases h with ⟨rfl, rfl⟩ | ⟨l, rfl, hl, _, hx⟩
  · simp at hi
  · have hil : i < l.length := by omega
    refine ⟨l, l[i], fun k rd => ?_, List.getElem?_eq_getElem hil, hx i _ _ (List.getElem?_eq_getElem hil) (List.getElem?_eq_getElem hi)⟩
    rw [n_idxV, if_pos ⟨rfl, by omega, by omega, by omega⟩]; simp
end Go.Ai.G
/- CertNarrow. -/
namespace Go.Ai.G
open Go.Ai
set_option maxRecDepth 100000
set_option linter.unusedSimpArgs false
set_option linter.unusedVariables false
variable {A : AProg} {φ : Nat → Nat}
attribute [local simp ↓] getD_z getD_s hid_k hid_o hid_q hid_v PO_nil PO_none PO_grd PD_nil PD_none PD_grd PDO_N PDO_X PDO_call PDO_calli PDO_callv PSX_N PSX_X PSX_call PSX_calli PSX_callv PSX_inv
  PSX_callp PSX_panic PDO_inv PStep_inv thenC_pan blockC_pan loopC_pan endX_ret endX_norm endX_pan PStep_N PStep_X PStep_call PStep_calli PC_skip PC_lab PC_ret PC_exit PC_reg PC_draw
  PC_seq PC_block PC_loop PC_scope PC_cond thenC_norm thenC_ret thenC_exit blockC_norm blockC_ret blockC_exit loopC_norm loopC_ret loopC_exit endR_ret endR_norm
attribute [local simp] gz PDX_free PDX_eq KI_some n_mki n_tas0 n_tasf PStep_callv resK_none resK_t resK_tt KNO_val KNO_new KNO_ite KNO_map KXO_some KXO_ite KVA_t KVA_f KG_skip KG_tt KG_ff KG_tf KG_ft
  KB_true KB_false KNOD_val KNOD_new KNOD_ite n_mv n_pick n_bin n_eqB n_eqN n_eqS n_un n_conv n_fadd n_faddV n_fld1 n_fldN n_idx n_idxA n_idxV n_idxAV n_ext n_lenS n_lenS0 n_lenV
  n_lenT n_lenA n_min n_max n_build n_mkfn n_slc n_slc0 n_slcV n_slcA n_load1 n_loadN n_load1V n_loadNV n_alloc n_box n_bsl n_mksl n_nilcP n_nilcV n_nilcI n_nilcF x_store x_clear0
  x_clear b_add b_sub b_mul b_eql b_neq b_lss b_leq b_gtr b_geq b_and16 unV ntouch gather hide unhide evalOpd applyOuts int_bne int_beq ite_bool ite_int one_bool cells_bool one_int
  cells_int one_str cells_str one_nilp cells_nilp one_ptr cells_ptr one_nils cells_nils one_sl cells_sl one_nilf cells_nilf one_fn cells_fn one_nili cells_nili one_mp cells_mp
  one_nilm cells_nilm one_iface cells_iface one_vs cells_vs one_vp cells_vp cells_agg Nat.testBit setAt_1 setAt_2 closeds_nil closeds_cons closed_bool closed_int closed_str
  closed_nilp closed_nils closed_nilm closed_nilf closed_nili closed_agg closed_tup closed_vs closed_vp closed_iface closed_fn closeds_cI closeds_cE viewA_closed viewR_closed AV.scal
  AV.scal0 fillA repA part_bool part_int part_str part_nilp part_ptr part_nils part_sl part_nilm part_mp part_nilf part_fn part_nili part_iface part_agg part_vs part_vp viewA_sl1
  vaSl_cells wrap_0 wrap_1 wrap_2 wrap_m1 set_last get_last
structure N22 (A : AProg) (φ : Nat → Nat) : Prop extends L22 A φ where
  putTrees : Has A (φ 108) (f108 φ)
  putCuts : Has A (φ 109) (f109 φ)
end Go.Ai.G
