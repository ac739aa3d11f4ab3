/- A part of what the law leans on: the abstract machine, the contracts, the rows. -/
import Derived.Test.YtdpjeplagapdgaaK5
import Derived.WalkKit
import Derived.ProofKit
import Derived.OpenShut
import Derived.ShutString
import Derived.ChangeOld
import Derived.Below
import Derived.SizedLaws
/- What comes in, as values of the abstract machine. -/
namespace Go.Ai
open Go.ChangeShapes Go.WideShapes Go.ChangeAt Go.RowKit
set_option linter.unusedVariables false
set_option linter.unusedSimpArgs false
variable {H : Type} {enc : TypeId × Value → H} {P : Program} {W : World}
/-- All of a memory, as what changes no more. -/
def muOf (W : World) : Mu := ⟨fun _ _ => none, fun k o => W.cell? ⟨k, o, none⟩⟩
theorem cell?_lt {W : World} {k o : Nat} {u : Value} (h : W.cell? ⟨k, o, none⟩ = some u) : k < W.heap.size := by
  rcases Nat.lt_or_ge k W.heap.size with h' | h'
  · exact h'
  · simp [World.cell?, Array.getElem?_eq_none h'] at h
theorem HR.start (W : World) : HR W.heap.size (muOf W) [] W :=
  ⟨fun b o hb => by simp at hb, fun b b' o o' a a' hb => by simp at hb, fun b o g a hb => by simp at hb, fun _ _ _ => rfl, Nat.le_refl _, fun k o u hu => ⟨cell?_lt hu, hu⟩, fun b o a k j u hb => by simp at hb⟩
/-- Behind a call that was made with no memory of its own. -/
theorem below_start {H1 : Heap} {ν : Mu} {w w' : World} (hx : Ext [] H1 (muOf w) ν w w') : Below w.heap.size w w' :=
  ⟨hx.os, hx.tape, hx.output, hx.size, fun k hk => hx.frame k hk fun b o a hb hr => by simp at hb⟩
/-- A number of one of the kinds, as a cell. -/
def okInt (k : IntKind) (v : AV) : Prop := ∃ n, v = .int k n ∧ k.min ≤ n ∧ n ≤ k.max
theorem wf_has {k : IntKind} {n : Int} (h : (Lit.int k n).wf = true) : k.min ≤ n ∧ n ≤ k.max := by
  simpa [Lit.wf] using h
theorem wf_i64 {n : Int} (h : (Lit.int .i64 n).wf = true) : -9223372036854775808 ≤ n ∧ n ≤ 9223372036854775807 := wf_has h
theorem cells_sing {v : Value} {cs : List Value} (h : v.cells.toList = cs) {u : Value} (hu : cs = [u]) (hn : ∀ xs, v ≠ .agg xs) : v = u := by
  rw [hu] at h
  cases v <;> simp_all [Value.cells]
theorem range_mapM {f : Nat → Option Value} : ∀ {n : Nat} {cs : List Value}, (List.range n).mapM f = some cs → cs.length = n ∧ ∀ i, i < n → f i = cs[i]? := by
  intro n
  induction n with
  | zero => intro cs h; simp at h; subst h; exact ⟨rfl, fun i hi => by omega⟩
  | succ n ih =>
    intro cs h
    rw [List.range_succ, List.mapM_append] at h
    simp only [Option.bind_eq_bind, Option.bind_eq_some_iff, List.mapM_cons, List.mapM_nil, Option.pure_def, Option.some.injEq] at h
    obtain ⟨xs, h1, ys, ⟨y, hy, zs, rfl, rfl⟩, rfl⟩ := h
    obtain ⟨e1, e2⟩ := ih h1
    refine ⟨by simp [e1], fun i hi => ?_⟩
    by_cases e : i < n
    · rw [List.getElem?_append_left (by omega)]; exact e2 i e
    · have : i = n := by omega
      subst this
      rw [hy, List.getElem?_append_right (by omega), e1]; simp
/-- A slice of elements of sz cells each: what lies there. -/
theorem open_slice {t e : TypeId} {sz : Nat} {v : Value} {d : DataW H} {ps : List MemPlace} (ht : P.underlying t = some (.slice e)) (hsz : P.cellsOf e = sz) (hval : Value.okWide P W .any 0 t v)
    (h : DataW.Trod enc P W 0 (fun _ => true) true t v d ps) :
    v = .slice none 0 0 ∨ ∃ k off n c, v = .slice (some ⟨k, off, none⟩) n c ∧ n ≤ c ∧ c ≤ maxLen ∧ ∀ i, i < n → ∃ cs m x, cs.length = sz ∧ (∀ j, j < sz → W.cell? ⟨k, off + i * sz + j, none⟩ = cs[j]?) ∧ DataW.trod enc P W 0 (fun _ => true) true m e cs = some x := by
  obtain ⟨m, h⟩ := h
  have hna : ∀ xs, v ≠ .agg xs := by
    rintro xs rfl
    simp only [Value.okWide, ht, Cell.okWide, Cell.ok] at hval
  rcases DataW.trod_slice ht h with ⟨hcs, _⟩ | ⟨a, len, cap, elems, rest, n, _, hcs, _, _, hl, hc, hel, helem, _⟩
  · exact .inl (cells_sing rfl hcs hna)
  · have hv := cells_sing rfl hcs hna
    subst hv
    right
    have hsp : a.spot = none := by
      simp only [Value.okWide, ht, Cell.okWide, Cell.ok] at hval
      exact hval.2.2.2.1
    obtain ⟨k, off, s⟩ := a
    simp only at hsp
    subst hsp
    refine ⟨k, off, len, cap, rfl, hl, hc, fun i hi => ?_⟩
    have he := helem i hi
    rw [List.getElem?_eq_getElem (by omega), hsz, Option.bind_eq_some_iff] at he
    obtain ⟨cs, h1, h2⟩ := he
    unfold World.cells? at h1
    split at h1
    · obtain ⟨k1, k2⟩ := range_mapM h1
      refine ⟨cs, n, _, k1, fun j hj => ?_, h2⟩
      rw [← k2 j hj, addr_add ⟨k, off, none⟩ (i * sz) rfl, addr_add ⟨k, off + i * sz, none⟩ j rfl]
    · cases h1
/-- Numbers. -/
theorem open_ints64 {t e : TypeId} {v : Value} {d : DataW H} {ps : List MemPlace} (ht : P.underlying t = some (.slice e)) (he : P.underlying e = some (.int .i64)) (hsz : P.cellsOf e = 1) (hval : Value.okWide P W .any 0 t v)
    (h : DataW.Trod enc P W 0 (fun _ => true) true t v d ps) : ∃ av xs, IsI av xs ∧ VR (muOf W) av v ∧ xs.length ≤ maxLen ∧ ∀ x ∈ xs, -9223372036854775808 ≤ x ∧ x ≤ 9223372036854775807 := by
  rcases open_slice ht hsz hval h with rfl | ⟨k, off, n, c, rfl, hn, hc, hel⟩
  · exact ⟨.nils, [], isI_nil, .nils, by simp, by simp⟩
  · have hcell : ∀ i, i < n → ∃ x : Int, W.cell? ⟨k, off + i, none⟩ = some (.int .i64 x) ∧ -9223372036854775808 ≤ x ∧ x ≤ 9223372036854775807 := by
      intro i hi
      obtain ⟨cs, m, x, h1, h2, h3⟩ := hel i hi
      obtain ⟨z, rfl, _, hw⟩ := DataW.trod_int he h3
      have := h2 0 (by omega)
      rw [Nat.mul_one, Nat.add_zero] at this
      exact ⟨z, this, wf_i64 hw⟩
    let xs : List Int := (List.range n).map fun i => match W.cell? ⟨k, off + i, none⟩ with
      | some (.int _ x) => x
      | _ => 0
    have hxl : xs.length = n := by simp [xs]
    have hxs : ∀ i (h : i < xs.length), W.cell? ⟨k, off + i, none⟩ = some (.int .i64 xs[i]) ∧ -9223372036854775808 ≤ xs[i] ∧ xs[i] ≤ 9223372036854775807 := by
      intro i hi
      obtain ⟨x, h1, h2⟩ := hcell i (by omega)
      have : xs[i] = x := by simp [xs, h1]
      rw [this]; exact ⟨h1, h2⟩
    refine ⟨vI xs, xs, isI_v xs, ?_, by omega, fun x hx => ?_⟩
    · rw [← hxl]
      refine .vs_mk (k := k) (off := off) (ys := xs.map (Value.int .i64)) (by omega) (by simp [cI]) (fun _ => rfl) ⟨by simp [cI], fun i x y hx hy => ?_⟩ (fun i y hy => ?_) (closeds_cI xs)
      · simp only [cI, List.getElem?_map, Option.map_eq_some_iff] at hx hy
        obtain ⟨a, ha, rfl⟩ := hx
        obtain ⟨b, hb, rfl⟩ := hy
        rw [ha] at hb; cases hb; exact .int _ _
      · simp only [List.getElem?_map, Option.map_eq_some_iff] at hy
        obtain ⟨b, hb, rfl⟩ := hy
        obtain ⟨hi, rfl⟩ := List.getElem?_eq_some_iff.1 hb
        exact (hxs i hi).1
    · obtain ⟨i, hi, rfl⟩ := List.getElem_of_mem hx
      exact (hxs i hi).2
/-- Is this a struct of two numbers, one behind the other? -/
def isPair (P : Program) (e : TypeId) : Bool :=
  match P.underlying e with
  | some (.struct fs) => (match fs.toList with
    | [f, g] => f.offset == 0 && g.offset == 1 && (P.underlying f.type matches some (.int .i64)) && (P.underlying g.type matches some (.int .i64)) && P.cellsOf f.type == 1 && P.cellsOf g.type == 1 && P.cellsOf e == 2
    | _ => false)
  | _ => false
theorem open_pair {e : TypeId} {m : Nat} {cs : List Value} {x : DataW H × List MemPlace} (hp : isPair P e = true) (h : DataW.trod enc P W 0 (fun _ => true) true m e cs = some x) :
    ∃ a b : Int, cs = [.int .i64 a, .int .i64 b] ∧ (-9223372036854775808 ≤ a ∧ a ≤ 9223372036854775807) ∧ (-9223372036854775808 ≤ b ∧ b ≤ 9223372036854775807) := by
  unfold isPair at hp
  split at hp
  · rename_i fs hfs
    split at hp
    · rename_i f g hfg
      simp only [Bool.and_eq_true, beq_iff_eq] at hp
      obtain ⟨⟨⟨⟨⟨⟨h1, h2⟩, h3⟩, h4⟩, h5⟩, h6⟩, h7⟩ := hp
      obtain ⟨xs, n, _, _, hl, hxl, hf⟩ := DataW.trod_struct hfs h
      have hfs' : fs = #[f, g] := by cases fs; simp_all
      subst hfs'
      have f0 := hf 0 f (by simp)
      have f1 := hf 1 g (by simp)
      rw [h7] at hl
      match cs, hl with
      | [u, w], _ =>
        rw [h1, h5] at f0
        rw [h2, h6] at f1
        simp at hxl
        rw [List.getElem?_eq_getElem (by omega)] at f0 f1
        split at h3
        · rename_i k3
          split at h4
          · rename_i k4
            obtain ⟨a, e1, _, w1⟩ := DataW.trod_int k3 f0
            obtain ⟨b, e2, _, w2⟩ := DataW.trod_int k4 f1
            simp at e1 e2
            subst e1; subst e2
            exact ⟨a, b, rfl, wf_i64 w1, wf_i64 w2⟩
          · cases h4
        · cases h3
    · cases hp
  · cases hp
/-- Edges. -/
theorem open_edges {t e : TypeId} {v : Value} {d : DataW H} {ps : List MemPlace} (ht : P.underlying t = some (.slice e)) (he : isPair P e = true) (hsz : P.cellsOf e = 2) (hval : Value.okWide P W .any 0 t v)
    (h : DataW.Trod enc P W 0 (fun _ => true) true t v d ps) : ∃ av es, IsE av es ∧ VR (muOf W) av v ∧ es.length ≤ maxLen ∧ ∀ x ∈ es, (-9223372036854775808 ≤ x.1 ∧ x.1 ≤ 9223372036854775807) ∧ (-9223372036854775808 ≤ x.2 ∧ x.2 ≤ 9223372036854775807) := by
  rcases open_slice ht hsz hval h with rfl | ⟨k, off, n, c, rfl, hn, hc, hel⟩
  · exact ⟨.nils, [], isE_nil, .nils, by simp, by simp⟩
  · have hcell : ∀ i, i < n → ∃ a b : Int, W.cell? ⟨k, off + i * 2, none⟩ = some (.int .i64 a) ∧ W.cell? ⟨k, off + i * 2 + 1, none⟩ = some (.int .i64 b) ∧ (-9223372036854775808 ≤ a ∧ a ≤ 9223372036854775807) ∧ (-9223372036854775808 ≤ b ∧ b ≤ 9223372036854775807) := by
      intro i hi
      obtain ⟨cs, m, x, h1, h2, h3⟩ := hel i hi
      obtain ⟨a, b, rfl, ha, hb⟩ := open_pair he h3
      exact ⟨a, b, h2 0 (by omega), h2 1 (by omega), ha, hb⟩
    let num : Nat → Int := fun o => match W.cell? ⟨k, off + o, none⟩ with
      | some (.int _ x) => x
      | _ => 0
    let es : List Ed := (List.range n).map fun i => (num (i * 2), num (i * 2 + 1))
    have hxl : es.length = n := by simp [es]
    have hes : ∀ i (h : i < es.length), W.cell? ⟨k, off + i * 2, none⟩ = some (.int .i64 es[i].1) ∧ W.cell? ⟨k, off + i * 2 + 1, none⟩ = some (.int .i64 es[i].2) ∧ (-9223372036854775808 ≤ es[i].1 ∧ es[i].1 ≤ 9223372036854775807) ∧ (-9223372036854775808 ≤ es[i].2 ∧ es[i].2 ≤ 9223372036854775807) := by
      intro i hi
      obtain ⟨a, b, h1, h2, h3, h4⟩ := hcell i (by omega)
      have : es[i] = (a, b) := by
        simp only [es, List.getElem_map, List.getElem_range, num, h1]
        rw [show off + (i * 2 + 1) = off + i * 2 + 1 by omega, h2]
      rw [this]; exact ⟨h1, h2, h3, h4⟩
    refine ⟨vE es, es, isE_v es, ?_, by omega, fun x hx => ?_⟩
    · rw [← hxl]
      have henc : ∀ (es : List Ed), VRs (muOf W) (cellsE es) (es.flatMap fun x => [Value.int .i64 x.1, Value.int .i64 x.2]) := by
        intro es
        induction es with
        | nil => exact .nil _
        | cons x l ih => exact .cons (.int _ _) (.cons (.int _ _) ih)
      have hget : ∀ (es : List Ed) (o : Nat), (∀ i (h : i < es.length), W.cell? ⟨k, o + i * 2, none⟩ = some (.int .i64 es[i].1) ∧ W.cell? ⟨k, o + i * 2 + 1, none⟩ = some (.int .i64 es[i].2)) →
          ∀ (i : Nat) y, (es.flatMap fun x => [Value.int .i64 x.1, Value.int .i64 x.2])[i]? = some y → W.cell? ⟨k, o + i, none⟩ = some y := by
        intro es
        induction es with
        | nil => intro o _ i y hy; simp at hy
        | cons x l ih =>
          intro o hh i y hy
          rw [List.flatMap_cons] at hy
          match i, hy with
          | 0, hy => simp at hy; subst hy; have := (hh 0 (by simp)).1; simpa using this
          | 1, hy => simp at hy; subst hy; have := (hh 0 (by simp)).2; simpa using this
          | i + 2, hy =>
            have := ih (o + 2) (fun j hj => by
              have h1 := hh (j + 1) (by simpa using hj)
              rw [show o + (j + 1) * 2 = o + 2 + j * 2 by omega] at h1
              simpa using h1) i y (by simpa using hy)
            rw [show o + (i + 2) = o + 2 + i by omega]; exact this
      exact .vs_mk (k := k) (off := off) (by omega) (by rw [cellsE_length]) (fun _ => rfl) (henc es) (hget es off fun i hi => ⟨(hes i hi).1, (hes i hi).2.1⟩) (closeds_cE es)
    · obtain ⟨i, hi, rfl⟩ := List.getElem_of_mem hx
      exact (hes i hi).2.2
end Go.Ai
/- What comes in, as values of the abstract machine: graphs and arrays. -/
namespace Go.Ai
open Go.ChangeShapes Go.WideShapes Go.ChangeAt Go.RowKit
set_option linter.unusedVariables false
set_option linter.unusedSimpArgs false
variable {H : Type} {enc : TypeId × Value → H} {P : Program} {W : World}
/-- Is this a struct of a number and a slice? -/
def isGraph (P : Program) (t i s : TypeId) : Bool :=
  (match P.underlying t with
  | some (.struct fs) => (match fs.toList with
    | [f, g] => f.offset == 0 && g.offset == 1 && f.type == i && g.type == s
    | _ => false)
  | _ => false) && (P.cellTypes P.depth t == some [i, s]) && P.cellsOf i == 1 && P.cellsOf s == 1 && P.cellsOf t == 2
theorem open_graph {t i s e : TypeId} {v : Value} {d : DataW H} {ps : List MemPlace} (hg : isGraph P t i s = true) (hi : P.underlying i = some (.int .i64)) (hs : P.underlying s = some (.slice e)) (he : isPair P e = true) (hsz : P.cellsOf e = 2) (hval : Value.okWide P W .any 0 t v)
    (h : DataW.Trod enc P W 0 (fun _ => true) true t v d ps) : ∃ (n : Int) (av : AV) (es : List Ed), IsE av es ∧ VR (muOf W) (.agg [.int .i64 n, av]) v ∧ es.length ≤ maxLen ∧ (-9223372036854775808 ≤ n ∧ n ≤ 9223372036854775807) ∧ ∀ x ∈ es, (-9223372036854775808 ≤ x.1 ∧ x.1 ≤ 9223372036854775807) ∧ (-9223372036854775808 ≤ x.2 ∧ x.2 ≤ 9223372036854775807) := by
  obtain ⟨m, h⟩ := h
  unfold isGraph at hg
  simp only [Bool.and_eq_true, beq_iff_eq] at hg
  obtain ⟨⟨⟨⟨hg, hct⟩, hci⟩, hcs⟩, hcc⟩ := hg
  split at hg
  · rename_i fs hfs
    split at hg
    · rename_i f g hfg
      simp only [Bool.and_eq_true, beq_iff_eq] at hg
      obtain ⟨⟨⟨g1, g2⟩, g3⟩, g4⟩ := hg
      have hfs' : fs = #[f, g] := by cases fs; simp_all
      subst hfs'
      simp only [Value.okWide, hfs] at hval
      obtain ⟨cs, rfl, hsize, ts, hts, _, hcell⟩ := hval
      rw [hct] at hts; cases hts
      rw [hcc] at hsize
      obtain ⟨u0, u1, rfl⟩ : ∃ u0 u1, cs = #[u0, u1] := by
        obtain ⟨l⟩ := cs
        match l, hsize with
        | [a, b], _ => exact ⟨a, b, rfl⟩
      obtain ⟨xs, n, _, _, hl, hxl, hf⟩ := DataW.trod_struct hfs h
      have f0 := hf 0 f (by simp)
      have f1 := hf 1 g (by simp)
      simp at hxl
      rw [g1, g3, hci, List.getElem?_eq_getElem (by omega)] at f0
      rw [g2, g4, hcs, List.getElem?_eq_getElem (by omega)] at f1
      simp only [Value.cells, List.drop_zero, List.drop_succ_cons, List.take_succ_cons, List.take_zero] at f0 f1
      obtain ⟨a, e1, _, w1⟩ := DataW.trod_int hi f0
      simp at e1
      subst e1
      obtain ⟨u, hu, hok⟩ := hcell 1 u1 (by simp)
      simp at hu
      subst hu
      have hv1 : Value.okWide P W .any 0 s u1 := by simp only [Value.okWide, hs]; exact hok
      have hc1 : u1.cells.toList = [u1] := by
        cases u1 <;> first | rfl | (simp only [Cell.okWide, Cell.ok, hs] at hok)
      have ht1 : DataW.Trod enc P W 0 (fun _ => true) true s u1 xs[1].1 xs[1].2 := ⟨_, by rw [hc1]; exact f1⟩
      obtain ⟨av, es, k1, k2, k3, k4⟩ := open_edges hs he hsz hv1 ht1
      exact ⟨a, av, es, k1, VR.agg' (ys := #[.int .i64 a, u1]) (VRs.cons (.int _ _) (VRs.cons k2 (VRs.nil _))), k3, wf_i64 w1, k4⟩
    · cases hg
  · cases hg
theorem open_arr {t i : TypeId} {k : Nat} {v : Value} {d : DataW H} {ps : List MemPlace} (ht : P.underlying t = some (.array k i)) (hi : P.underlying i = some (.int .i64)) (hci : P.cellsOf i = 1) (hct : P.cellsOf t = k) (hval : Value.okWide P W .any 0 t v)
    (h : DataW.Trod enc P W 0 (fun _ => true) true t v d ps) : ∃ xs : List Int, xs.length = k ∧ v = .agg (xs.map (Value.int .i64)).toArray ∧ ∀ x ∈ xs, -9223372036854775808 ≤ x ∧ x ≤ 9223372036854775807 := by
  obtain ⟨m, h⟩ := h
  simp only [Value.okWide, ht] at hval
  obtain ⟨cs, rfl, hsize, _⟩ := hval
  obtain ⟨ys, n, _, _, hl, hyl, hf⟩ := DataW.trod_array ht h
  have hcl : cs.toList.length = k := by rw [← hct, ← hsize]; rfl
  have key : ∀ j (hj : j < cs.toList.length), ∃ a : Int, cs.toList[j] = .int .i64 a ∧ -9223372036854775808 ≤ a ∧ a ≤ 9223372036854775807 := by
    intro j hj
    have := hf j (by omega)
    rw [hci, Nat.mul_one, List.getElem?_eq_getElem (by omega)] at this
    simp only [Value.cells] at this
    obtain ⟨a, e1, _, w1⟩ := DataW.trod_int hi this
    refine ⟨a, ?_, wf_i64 w1⟩
    have h2 : ((cs.toList.drop j).take 1)[0]? = some cs.toList[j] := by rw [List.getElem?_take, if_pos (by omega), List.getElem?_drop]; simp
    rw [e1] at h2
    simpa using h2.symm
  let num : Value → Int := fun u => match u with
    | .int _ x => x
    | _ => 0
  refine ⟨cs.toList.map num, by simpa using hcl, ?_, fun x hx => ?_⟩
  · congr 1
    apply Array.ext'
    rw [List.toList_toArray]
    apply List.ext_getElem (by simp)
    intro j h1 h2
    obtain ⟨a, e, _⟩ := key j h1
    simp only [List.getElem_map]
    rw [e]
  · obtain ⟨u, hu, rfl⟩ := List.mem_map.1 hx
    obtain ⟨j, hj, rfl⟩ := List.getElem_of_mem hu
    obtain ⟨a, e, hb⟩ := key j hj
    rw [e]; exact hb
theorem open_arr2 {t i : TypeId} {v : Value} {d : DataW H} {ps : List MemPlace} (ht : P.underlying t = some (.array 2 i)) (hi : P.underlying i = some (.int .i64)) (hci : P.cellsOf i = 1) (hct : P.cellsOf t = 2) (hval : Value.okWide P W .any 0 t v)
    (h : DataW.Trod enc P W 0 (fun _ => true) true t v d ps) : ∃ a b : Int, VR (muOf W) (.agg [.int .i64 a, .int .i64 b]) v := by
  obtain ⟨xs, hl, rfl, _⟩ := open_arr ht hi hci hct hval h
  match xs, hl with
  | [a, b], _ => exact ⟨a, b, VR.agg' (ys := #[.int .i64 a, .int .i64 b]) (VRs.cons (.int _ _) (VRs.cons (.int _ _) (VRs.nil _)))⟩
theorem open_arr3 {t i : TypeId} {v : Value} {d : DataW H} {ps : List MemPlace} (ht : P.underlying t = some (.array 3 i)) (hi : P.underlying i = some (.int .i64)) (hci : P.cellsOf i = 1) (hct : P.cellsOf t = 3) (hval : Value.okWide P W .any 0 t v)
    (h : DataW.Trod enc P W 0 (fun _ => true) true t v d ps) : ∃ a b c : Int, VR (muOf W) (.agg [.int .i64 a, .int .i64 b, .int .i64 c]) v := by
  obtain ⟨xs, hl, rfl, _⟩ := open_arr ht hi hci hct hval h
  match xs, hl with
  | [a, b, c], _ => exact ⟨a, b, c, VR.agg' (ys := #[.int .i64 a, .int .i64 b, .int .i64 c]) (VRs.cons (.int _ _) (VRs.cons (.int _ _) (VRs.cons (.int _ _) (VRs.nil _))))⟩
end Go.Ai
