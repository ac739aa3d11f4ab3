/- A part of what the law leans on: the abstract machine, the contracts, the rows. -/
import Derived.Test.YtdpjeplagapdgaaK5
import Derived.WalkKit
import Derived.ProofKit
import Derived.OpenShut
import Derived.ShutString
import Derived.ChangeOld
import Derived.Below
import Derived.SizedLaws
import Derived.Test.YtdpjeplagapdgaaK6
/- What comes in, as values of the abstract machine. -/
namespace Go.Ai
open Go.ChangeShapes Go.WideShapes Go.ChangeAt Go.RowKit
set_option linter.unusedVariables false
set_option linter.unusedSimpArgs false
variable {H : Type} {enc : TypeId × Value → H} {P : Program} {W : World}
/-- All of a memory, as what changes no more. -/
def muOf (W : World) : Mu := ⟨fun _ _ => none, fun k o => W.cell? ⟨k, o, none⟩⟩
theorem cell?_lt {W : World} {k o : Nat} {u : Value} (h : W.cell? ⟨k, o, none⟩ = some u) : k < W.heap.size := by
  rcases Nat.lt_or_ge k W.heap.size with h' | h'
  · exact h'
  · simp [World.cell?, Array.getElem?_eq_none h'] at h
theorem HR.start (W : World) : HR W.heap.size (muOf W) [] W :=
  ⟨fun b o hb => by simp at hb, fun b b' o o' a a' hb => by simp at hb, fun b o g a hb => by simp at hb, fun _ _ _ => rfl, Nat.le_refl _, fun k o u hu => ⟨cell?_lt hu, hu⟩, fun b o a k j u hb => by simp at hb⟩
/-- Behind a call that was made with no memory of its own. -/
theorem below_start {H1 : Heap} {ν : Mu} {w w' : World} (hx : Ext [] H1 (muOf w) ν w w') : Below w.heap.size w w' :=
  ⟨hx.os, hx.tape, hx.output, hx.size, fun k hk => hx.frame k hk fun b o a hb hr => by simp at hb⟩
/-- A number of one of the kinds, as a cell. -/
def okInt (k : IntKind) (v : AV) : Prop := ∃ n, v = .int k n ∧ k.min ≤ n ∧ n ≤ k.max
theorem wf_has {k : IntKind} {n : Int} (h : (Lit.int k n).wf = true) : k.min ≤ n ∧ n ≤ k.max := by
  simpa [Lit.wf] using h
theorem wf_i64 {n : Int} (h : (Lit.int .i64 n).wf = true) : -9223372036854775808 ≤ n ∧ n ≤ 9223372036854775807 := wf_has h
theorem cells_sing {v : Value} {cs : List Value} (h : v.cells.toList = cs) {u : Value} (hu : cs = [u]) (hn : ∀ xs, v ≠ .agg xs) : v = u := by
  rw [hu] at h
  cases v <;> simp_all [Value.cells]
theorem range_mapM {f : Nat → Option Value} : ∀ {n : Nat} {cs : List Value}, (List.range n).mapM f = some cs → cs.length = n ∧ ∀ i, i < n → f i = cs[i]? := by
  intro n
  induction n with
  | zero => intro cs h; simp at h; subst h; exact ⟨rfl, fun i hi => by omega⟩
  | succ n ih =>
    intro cs h
    rw [List.range_succ, List.mapM_append] at h
    simp only [Option.bind_eq_bind, Option.bind_eq_some_iff, List.mapM_cons, List.mapM_nil, Option.pure_def, Option.some.injEq] at h
    obtain ⟨xs, h1, ys, ⟨y, hy, zs, rfl, rfl⟩, rfl⟩ := h
    obtain ⟨e1, e2⟩ := ih h1
    refine ⟨by simp [e1], fun i hi => ?_⟩
    by_cases e : i < n
    · rw [List.getElem?_append_left (by omega)]; exact e2 i e
    · have : i = n := by omega
      subst this
      rw [hy, List.getElem?_append_right (by omega), e1]; simp
/-- A slice of elements of sz cells each: what lies there. -/
theorem open_slice {t e : TypeId} {sz : Nat} {v : Value} {d : DataW H} {ps : List MemPlace} (ht : P.underlying t = some (.slice e)) (hsz : P.cellsOf e = sz) (hval : Value.okWide P W .any 0 t v)
    (h : DataW.Trod enc P W 0 (fun _ => true) true t v d ps) :
    v = .slice none 0 0 ∨ ∃ k off n c, v = .slice (some ⟨k, off, none⟩) n c ∧ n ≤ c ∧ c ≤ maxLen ∧ ∀ i, i < n → ∃ cs m x, cs.length = sz ∧ (∀ j, j < sz → W.cell? ⟨k, off + i * sz + j, none⟩ = cs[j]?) ∧ DataW.trod enc P W 0 (fun _ => true) true m e cs = some x := by
  obtain ⟨m, h⟩ := h
  have hna : ∀ xs, v ≠ .agg xs := by
    rintro xs rfl
    simp only [Value.okWide, ht, Cell.okWide, Cell.ok] at hval
  rcases DataW.trod_slice ht h with ⟨hcs, _⟩ | ⟨a, len, cap, elems, rest, n, _, hcs, _, _, hl, hc, hel, helem, _⟩
  · exact .inl (cells_sing rfl hcs hna)
  · have hv := cells_sing rfl hcs hna
    subst hv
    right
    have hsp : a.spot = none := by
      simp only [Value.okWide, ht, Cell.okWide, Cell.ok] at hval
      exact hval.2.2.2.1
    obtain ⟨k, off, s⟩ := a
    simp only at hsp
    subst hsp
    refine ⟨k, off, len, cap, rfl, hl, hc, fun i hi => ?_⟩
    have he := helem i hi
    rw [List.getElem?_eq_getElem (by omega), hsz, Option.bind_eq_some_iff] at he
    obtain ⟨cs, h1, h2⟩ := he
    unfold World.cells? at h1
    split at h1
    · obtain ⟨k1, k2⟩ := range_mapM h1
      refine ⟨cs, n, _, k1, fun j hj => ?_, h2⟩
      rw [← k2 j hj, addr_add ⟨k, off, none⟩ (i * sz) rfl, addr_add ⟨k, off + i * sz, none⟩ j rfl]
    · cases h1
/-- Numbers. -/
theorem open_ints64 {t e : TypeId} {v : Value} {d : DataW H} {ps : List MemPlace} (ht : P.underlying t = some (.slice e)) (he : P.underlying e = some (.int .i64)) (hsz : P.cellsOf e = 1) (hval : Value.okWide P W .any 0 t v)
    (h : DataW.Trod enc P W 0 (fun _ => true) true t v d ps) : ∃ av xs, IsI av xs ∧ VR (muOf W) av v ∧ xs.length ≤ maxLen ∧ ∀ x ∈ xs, -9223372036854775808 ≤ x ∧ x ≤ 9223372036854775807 := by
  rcases open_slice ht hsz hval h with rfl | ⟨k, off, n, c, rfl, hn, hc, hel⟩
  · exact ⟨.nils, [], isI_nil, .nils, by simp, by simp⟩
  · have hcell : ∀ i, i < n → ∃ x : Int, W.cell? ⟨k, off + i, none⟩ = some (.int .i64 x) ∧ -9223372036854775808 ≤ x ∧ x ≤ 9223372036854775807 := by
      intro i hi
      obtain ⟨cs, m, x, h1, h2, h3⟩ := hel i hi
      obtain ⟨z, rfl, _, hw⟩ := DataW.trod_int he h3
      have := h2 0 (by omega)
      rw [Nat.mul_one, Nat.add_zero] at this
      exact ⟨z, this, wf_i64 hw⟩
    let xs : List Int := (List.range n).map fun i => match W.cell? ⟨k, off + i, none⟩ with
      | some (.int _ x) => x
      | _ => 0
    have hxl : xs.length = n := by simp [xs]
    have hxs : ∀ i (h : i < xs.length), W.cell? ⟨k, off + i, none⟩ = some (.int .i64 xs[i]) ∧ -9223372036854775808 ≤ xs[i] ∧ xs[i] ≤ 9223372036854775807 := by
      intro i hi
      obtain ⟨x, h1, h2⟩ := hcell i (by omega)
      have : xs[i] = x := by simp [xs, h1]
      rw [this]; exact ⟨h1, h2⟩
    refine ⟨vI xs, xs, isI_v xs, ?_, by omega, fun x hx => ?_⟩
    · rw [← hxl]
      refine .vs_mk (k := k) (off := off) (ys := xs.map (Value.int .i64)) (by omega) (by simp [cI]) (fun _ => rfl) ⟨by simp [cI], fun i x y hx hy => ?_⟩ (fun i y hy => ?_) (closeds_cI xs)
      · simp only [cI, List.getElem?_map, Option.map_eq_some_iff] at hx hy
        obtain ⟨a, ha, rfl⟩ := hx
        obtain ⟨b, hb, rfl⟩ := hy
        rw [ha] at hb; cases hb; exact .int _ _
      · simp only [List.getElem?_map, Option.map_eq_some_iff] at hy
        obtain ⟨b, hb, rfl⟩ := hy
        obtain ⟨hi, rfl⟩ := List.getElem?_eq_some_iff.1 hb
        exact (hxs i hi).1
    · obtain ⟨i, hi, rfl⟩ := List.getElem_of_mem hx
      exact (hxs i hi).2
/-- Is this a struct of two numbers, one behind the other? -/
def isPair (P : Program) (e : TypeId) : Bool :=
  match P.underlying e with
  | some (.struct fs) => (match fs.toList with
    | [f, g] => f.offset == 0 && g.offset == 1 && (P.underlying f.type matches some (.int .i64)) && (P.underlying g.type matches some (.int .i64)) && P.cellsOf f.type == 1 && P.cellsOf g.type == 1 && P.cellsOf e == 2
    | _ => false)
  | _ => false
theorem open_pair {e : TypeId} {m : Nat} {cs : List Value} {x : DataW H × List MemPlace} (hp : isPair P e = true) (h : DataW.trod enc P W 0 (fun _ => true) true m e cs = some x) :
    ∃ a b : Int, cs = [.int .i64 a, .int .i64 b] ∧ (-9223372036854775808 ≤ a ∧ a ≤ 9223372036854775807) ∧ (-9223372036854775808 ≤ b ∧ b ≤ 9223372036854775807) := by
  unfold isPair at hp
  split at hp
  · rename_i fs hfs
    split at hp
    · rename_i f g hfg
      simp only [Bool.and_eq_true, beq_iff_eq] at hp
      obtain ⟨⟨⟨⟨⟨⟨h1, h2⟩, h3⟩, h4⟩, h5⟩, h6⟩, h7⟩ := hp
      obtain ⟨xs, n, _, _, hl, hxl, hf⟩ := DataW.trod_struct hfs h
      have hfs' : fs = #[f, g] := by cases fs; simp_all
      subst hfs'
      have f0 := hf 0 f (by simp)
      have f1 := hf 1 g (by simp)
      rw [h7] at hl
      match cs, hl with
      | [u, w], _ =>
        rw [h1, h5] at f0
        rw [h2, h6] at f1
        simp at hxl
        rw [List.getElem?_eq_getElem (by omega)] at f0 f1
        split at h3
        · rename_i k3
          split at h4
          · rename_i k4
            obtain ⟨a, e1, _, w1⟩ := DataW.trod_int k3 f0
            obtain ⟨b, e2, _, w2⟩ := DataW.trod_int k4 f1
            simp at e1 e2
            subst e1; subst e2
            exact ⟨a, b, rfl, wf_i64 w1, wf_i64 w2⟩
          · cases h4
        · cases h3
    · cases hp
  · cases hp
/-- Edges. -/
theorem open_edges {t e : TypeId} {v : Value} {d : DataW H} {ps : List MemPlace} (ht : P.underlying t = some (.slice e)) (he : isPair P e = true) (hsz : P.cellsOf e = 2) (hval : Value.okWide P W .any 0 t v)
    (h : DataW.Trod enc P W 0 (fun _ => true) true t v d ps) : ∃ av es, IsE av es ∧ VR (muOf W) av v ∧ es.length ≤ maxLen ∧ ∀ x ∈ es, (-9223372036854775808 ≤ x.1 ∧ x.1 ≤ 9223372036854775807) ∧ (-9223372036854775808 ≤ x.2 ∧ x.2 ≤ 9223372036854775807) := by
  rcases open_slice ht hsz hval h with rfl | ⟨k, off, n, c, rfl, hn, hc, hel⟩
  · exact ⟨.nils, [], isE_nil, .nils, by simp, by simp⟩
  · have hcell : ∀ i, i < n → ∃ a b : Int, W.cell? ⟨k, off + i * 2, none⟩ = some (.int .i64 a) ∧ W.cell? ⟨k, off + i * 2 + 1, none⟩ = some (.int .i64 b) ∧ (-9223372036854775808 ≤ a ∧ a ≤ 9223372036854775807) ∧ (-9223372036854775808 ≤ b ∧ b ≤ 9223372036854775807) := by
      intro i hi
      obtain ⟨cs, m, x, h1, h2, h3⟩ := hel i hi
      obtain ⟨a, b, rfl, ha, hb⟩ := open_pair he h3
      exact ⟨a, b, h2 0 (by omega), h2 1 (by omega), ha, hb⟩
    let num : Nat → Int := fun o => match W.cell? ⟨k, off + o, none⟩ with
      | some (.int _ x) => x
      | _ => 0
    let es : List Ed := (List.range n).map fun i => (num (i * 2), num (i * 2 + 1))
    have hxl : es.length = n := by simp [es]
    have hes : ∀ i (h : i < es.length), W.cell? ⟨k, off + i * 2, none⟩ = some (.int .i64 es[i].1) ∧ W.cell? ⟨k, off + i * 2 + 1, none⟩ = some (.int .i64 es[i].2) ∧ (-9223372036854775808 ≤ es[i].1 ∧ es[i].1 ≤ 9223372036854775807) ∧ (-9223372036854775808 ≤ es[i].2 ∧ es[i].2 ≤ 9223372036854775807) := by
      intro i hi
      obtain ⟨a, b, h1, h2, h3, h4⟩ := hcell i (by omega)
      have : es[i] = (a, b) := by
        simp only [es, List.getElem_map, List.getElem_range, num, h1]
        rw [show off + (i * 2 + 1) = off + i * 2 + 1 by omega, h2]
      rw [this]; exact ⟨h1, h2, h3, h4⟩
    refine ⟨vE es, es, isE_v es, ?_, by omega, fun x hx => ?_⟩
    · rw [← hxl]
      have henc : ∀ (es : List Ed), VRs (muOf W) (cellsE es) (es.flatMap fun x => [Value.int .i64 x.1, Value.int .i64 x.2]) := by
        intro es
        induction es with
        | nil => exact .nil _
        | cons x l ih => exact .cons (.int _ _) (.cons (.int _ _) ih)
      have hget : ∀ (es : List Ed) (o : Nat), (∀ i (h : i < es.length), W.cell? ⟨k, o + i * 2, none⟩ = some (.int .i64 es[i].1) ∧ W.cell? ⟨k, o + i * 2 + 1, none⟩ = some (.int .i64 es[i].2)) →
          ∀ (i : Nat) y, (es.flatMap fun x => [Value.int .i64 x.1, Value.int .i64 x.2])[i]? = some y → W.cell? ⟨k, o + i, none⟩ = some y := by
        intro es
        induction es with
        | nil => intro o _ i y hy; simp at hy
        | cons x l ih =>
          intro o hh i y hy
          rw [List.flatMap_cons] at hy
          match i, hy with
          | 0, hy => simp at hy; subst hy; have := (hh 0 (by simp)).1; simpa using this
          | 1, hy => simp at hy; subst hy; have := (hh 0 (by simp)).2; simpa using this
          | i + 2, hy =>
            have := ih (o + 2) (fun j hj => by
              have h1 := hh (j + 1) (by simpa using hj)
              rw [show o + (j + 1) * 2 = o + 2 + j * 2 by omega] at h1
              simpa using h1) i y (by simpa using hy)
            rw [show o + (i + 2) = o + 2 + i by omega]; exact this
      exact .vs_mk (k := k) (off := off) (by omega) (by rw [cellsE_length]) (fun _ => rfl) (henc es) (hget es off fun i hi => ⟨(hes i hi).1, (hes i hi).2.1⟩) (closeds_cE es)
    · obtain ⟨i, hi, rfl⟩ := List.getElem_of_mem hx
      exact (hes i hi).2.2
end Go.Ai
/- What comes in, as values of the abstract machine: graphs and arrays. -/
namespace Go.Ai
open Go.ChangeShapes Go.WideShapes Go.ChangeAt Go.RowKit
set_option linter.unusedVariables false
set_option linter.unusedSimpArgs false
variable {H : Type} {enc : TypeId × Value → H} {P : Program} {W : World}
/-- Is this a struct of a number and a slice? -/
def isGraph (P : Program) (t i s : TypeId) : Bool :=
  (match P.underlying t with
  | some (.struct fs) => (match fs.toList with
    | [f, g] => f.offset == 0 && g.offset == 1 && f.type == i && g.type == s
    | _ => false)
  | _ => false) && (P.cellTypes P.depth t == some [i, s]) && P.cellsOf i == 1 && P.cellsOf s == 1 && P.cellsOf t == 2
theorem open_graph {t i s e : TypeId} {v : Value} {d : DataW H} {ps : List MemPlace} (hg : isGraph P t i s = true) (hi : P.underlying i = some (.int .i64)) (hs : P.underlying s = some (.slice e)) (he : isPair P e = true) (hsz : P.cellsOf e = 2) (hval : Value.okWide P W .any 0 t v)
    (h : DataW.Trod enc P W 0 (fun _ => true) true t v d ps) : ∃ (n : Int) (av : AV) (es : List Ed), IsE av es ∧ VR (muOf W) (.agg [.int .i64 n, av]) v ∧ es.length ≤ maxLen ∧ (-9223372036854775808 ≤ n ∧ n ≤ 9223372036854775807) ∧ ∀ x ∈ es, (-9223372036854775808 ≤ x.1 ∧ x.1 ≤ 9223372036854775807) ∧ (-9223372036854775808 ≤ x.2 ∧ x.2 ≤ 9223372036854775807) := by
  obtain ⟨m, h⟩ := h
  unfold isGraph at hg
  simp only [Bool.and_eq_true, beq_iff_eq] at hg
  obtain ⟨⟨⟨⟨hg, hct⟩, hci⟩, hcs⟩, hcc⟩ := hg
  split at hg
  · rename_i fs hfs
    split at hg
    · rename_i f g hfg
      simp only [Bool.and_eq_true, beq_iff_eq] at hg
      obtain ⟨⟨⟨g1, g2⟩, g3⟩, g4⟩ := hg
      have hfs' : fs = #[f, g] := by cases fs; simp_all
      subst hfs'
      simp only [Value.okWide, hfs] at hval
      obtain ⟨cs, rfl, hsize, ts, hts, _, hcell⟩ := hval
      rw [hct] at hts; cases hts
      rw [hcc] at hsize
      obtain ⟨u0, u1, rfl⟩ : ∃ u0 u1, cs = #[u0, u1] := by
        obtain ⟨l⟩ := cs
        match l, hsize with
        | [a, b], _ => exact ⟨a, b, rfl⟩
      obtain ⟨xs, n, _, _, hl, hxl, hf⟩ := DataW.trod_struct hfs h
      have f0 := hf 0 f (by simp)
      have f1 := hf 1 g (by simp)
      simp at hxl
      rw [g1, g3, hci, List.getElem?_eq_getElem (by omega)] at f0
      rw [g2, g4, hcs, List.getElem?_eq_getElem (by omega)] at f1
      simp only [Value.cells, List.drop_zero, List.drop_succ_cons, List.take_succ_cons, List.take_zero] at f0 f1
      obtain ⟨a, e1, _, w1⟩ := DataW.trod_int hi f0
      simp at e1
      subst e1
      obtain ⟨u, hu, hok⟩ := hcell 1 u1 (by simp)
      simp at hu
      subst hu
      have hv1 : Value.okWide P W .any 0 s u1 := by simp only [Value.okWide, hs]; exact hok
      have hc1 : u1.cells.toList = [u1] := by
        cases u1 <;> first | rfl | (simp only [Cell.okWide, Cell.ok, hs] at hok)
      have ht1 : DataW.Trod enc P W 0 (fun _ => true) true s u1 xs[1].1 xs[1].2 := ⟨_, by rw [hc1]; exact f1⟩
      obtain ⟨av, es, k1, k2, k3, k4⟩ := open_edges hs he hsz hv1 ht1
      exact ⟨a, av, es, k1, VR.agg' (ys := #[.int .i64 a, u1]) (VRs.cons (.int _ _) (VRs.cons k2 (VRs.nil _))), k3, wf_i64 w1, k4⟩
    · cases hg
  · cases hg
theorem open_arr {t i : TypeId} {k : Nat} {v : Value} {d : DataW H} {ps : List MemPlace} (ht : P.underlying t = some (.array k i)) (hi : P.underlying i = some (.int .i64)) (hci : P.cellsOf i = 1) (hct : P.cellsOf t = k) (hval : Value.okWide P W .any 0 t v)
    (h : DataW.Trod enc P W 0 (fun _ => true) true t v d ps) : ∃ xs : List Int, xs.length = k ∧ v = .agg (xs.map (Value.int .i64)).toArray ∧ ∀ x ∈ xs, -9223372036854775808 ≤ x ∧ x ≤ 9223372036854775807 := by
  obtain ⟨m, h⟩ := h
  simp only [Value.okWide, ht] at hval
  obtain ⟨cs, rfl, hsize, _⟩ := hval
  obtain ⟨ys, n, _, _, hl, hyl, hf⟩ := DataW.trod_array ht h
  have hcl : cs.toList.length = k := by rw [← hct, ← hsize]; rfl
  have key : ∀ j (hj : j < cs.toList.length), ∃ a : Int, cs.toList[j] = .int .i64 a ∧ -9223372036854775808 ≤ a ∧ a ≤ 9223372036854775807 := by
    intro j hj
    have := hf j (by omega)
    rw [hci, Nat.mul_one, List.getElem?_eq_getElem (by omega)] at this
    simp only [Value.cells] at this
    obtain ⟨a, e1, _, w1⟩ := DataW.trod_int hi this
    refine ⟨a, ?_, wf_i64 w1⟩
    have h2 : ((cs.toList.drop j).take 1)[0]? = some cs.toList[j] := by rw [List.getElem?_take, if_pos (by omega), List.getElem?_drop]; simp
    rw [e1] at h2
    simpa using h2.symm
  let num : Value → Int := fun u => match u with
    | .int _ x => x
    | _ => 0
  refine ⟨cs.toList.map num, by simpa using hcl, ?_, fun x hx => ?_⟩
  · congr 1
    apply Array.ext'
    rw [List.toList_toArray]
    apply List.ext_getElem (by simp)
    intro j h1 h2
    obtain ⟨a, e, _⟩ := key j h1
    simp only [List.getElem_map]
    rw [e]
  · obtain ⟨u, hu, rfl⟩ := List.mem_map.1 hx
    obtain ⟨j, hj, rfl⟩ := List.getElem_of_mem hu
    obtain ⟨a, e, hb⟩ := key j hj
    rw [e]; exact hb
theorem open_arr2 {t i : TypeId} {v : Value} {d : DataW H} {ps : List MemPlace} (ht : P.underlying t = some (.array 2 i)) (hi : P.underlying i = some (.int .i64)) (hci : P.cellsOf i = 1) (hct : P.cellsOf t = 2) (hval : Value.okWide P W .any 0 t v)
    (h : DataW.Trod enc P W 0 (fun _ => true) true t v d ps) : ∃ a b : Int, VR (muOf W) (.agg [.int .i64 a, .int .i64 b]) v := by
  obtain ⟨xs, hl, rfl, _⟩ := open_arr ht hi hci hct hval h
  match xs, hl with
  | [a, b], _ => exact ⟨a, b, VR.agg' (ys := #[.int .i64 a, .int .i64 b]) (VRs.cons (.int _ _) (VRs.cons (.int _ _) (VRs.nil _)))⟩
theorem open_arr3 {t i : TypeId} {v : Value} {d : DataW H} {ps : List MemPlace} (ht : P.underlying t = some (.array 3 i)) (hi : P.underlying i = some (.int .i64)) (hci : P.cellsOf i = 1) (hct : P.cellsOf t = 3) (hval : Value.okWide P W .any 0 t v)
    (h : DataW.Trod enc P W 0 (fun _ => true) true t v d ps) : ∃ a b c : Int, VR (muOf W) (.agg [.int .i64 a, .int .i64 b, .int .i64 c]) v := by
  obtain ⟨xs, hl, rfl, _⟩ := open_arr ht hi hci hct hval h
  match xs, hl with
  | [a, b, c], _ => exact ⟨a, b, c, VR.agg' (ys := #[.int .i64 a, .int .i64 b, .int .i64 c]) (VRs.cons (.int _ _) (VRs.cons (.int _ _) (VRs.cons (.int _ _) (VRs.nil _))))⟩
end Go.Ai
/- What comes in, whatever it is made of: numbers, slices and structs. -/
namespace Go.Ai
open Go.ChangeShapes Go.WideShapes Go.ChangeAt Go.RowKit
set_option linter.unusedVariables false
set_option linter.unusedSimpArgs false
variable {H : Type} {enc : TypeId × Value → H} {P : Program} {W : World}
theorem choose_list {α : Type} {p : Nat → α → Prop} : ∀ (n : Nat), (∀ i, i < n → ∃ x, p i x) → ∃ l : List α, l.length = n ∧ ∀ (i : Nat) x, l[i]? = some x → p i x
  | 0, _ => ⟨[], rfl, fun i x h => by simp at h⟩
  | n + 1, h => by
    obtain ⟨l, h1, h2⟩ := choose_list n fun i hi => h i (by omega)
    obtain ⟨x, hx⟩ := h n (by omega)
    refine ⟨l ++ [x], by simp [h1], fun i y hy => ?_⟩
    by_cases e : i < l.length
    · rw [List.getElem?_append_left e] at hy; exact h2 i y hy
    · rw [List.getElem?_append_right (by omega)] at hy
      have : i - l.length = 0 := by
        have := (List.getElem?_eq_some_iff.1 hy).1
        simp at this; omega
      rw [this] at hy
      simp at hy
      subst hy
      have : i = n := by omega
      subst this; exact hx
theorem flatG_len {α : Type} {k : Nat} : ∀ {ts : List (List α)}, (∀ b ∈ ts, b.length = k) → ts.flatten.length = ts.length * k
  | [], _ => by simp
  | b :: ts, h => by
    rw [List.flatten_cons, List.length_append, flatG_len fun b hb => h b (List.mem_cons_of_mem _ hb), h b List.mem_cons_self, List.length_cons, Nat.add_mul]; omega
theorem flatG_at {α : Type} {k : Nat} : ∀ {ts : List (List α)} {i : Nat} {x : List α}, ts[i]? = some x → (∀ b ∈ ts, b.length = k) → (ts.flatten.drop (i * k)).take k = x
  | [], i, x, hi, _ => by simp at hi
  | b :: ts, 0, x, hi, h => by
    have hb : b.length = k := h b List.mem_cons_self
    simp at hi
    subst hi
    rw [Nat.zero_mul, List.drop_zero, List.flatten_cons, List.take_append_of_le_length (by omega), List.take_of_length_le (by omega)]
  | b :: ts, i + 1, x, hi, h => by
    have hb : b.length = k := h b List.mem_cons_self
    have := flatG_at (ts := ts) (i := i) (by simpa using hi) fun b hb => h b (List.mem_cons_of_mem _ hb)
    rw [List.flatten_cons, List.drop_append, List.drop_of_length_le (by rw [hb, Nat.add_mul]; omega), List.nil_append, hb, show (i + 1) * k - k = i * k by rw [Nat.add_mul]; omega, this]
/-- Cells of this type read as values of which Q is so. -/
def OpenT (enc : TypeId × Value → H) (P : Program) (W : World) (t : TypeId) (sz : Nat) (Q : List AV → Prop) : Prop :=
  ∀ m cs x, DataW.trod enc P W 0 (fun _ => true) true m t cs = some x → cs.length = sz ∧ ∃ avs, VRs (muOf W) avs cs ∧ AV.closeds avs = true ∧ Q avs
def QI (avs : List AV) : Prop := ∃ n, avs = [.int .i64 n]
def QS (sz : Nat) (Q : List AV → Prop) (avs : List AV) : Prop := ∃ v, avs = [v] ∧ (v = .nils ∨ ∃ rows : List (List AV), v = .vs rows.length sz rows.flatten ∧ AV.closeds rows.flatten = true ∧ ∀ r ∈ rows, r.length = sz ∧ Q r)
def QL : List (List AV → Prop) → List AV → Prop
  | [], avs => avs = []
  | Q :: Qs, avs => ∃ a b, avs = a ++ b ∧ Q a ∧ QL Qs b
theorem openT_int {t : TypeId} (ht : P.underlying t = some (.int .i64)) : OpenT enc P W t 1 QI := fun m cs x h => by
  obtain ⟨n, rfl, _⟩ := DataW.trod_int ht h
  exact ⟨rfl, [.int .i64 n], VRs.cons (.int _ _) (VRs.nil _), rfl, n, rfl⟩
theorem VRs.flat {μ : Mu} : ∀ {l : List (List AV × List Value)}, (∀ x ∈ l, VRs μ x.1 x.2) → VRs μ (l.map Prod.fst).flatten (l.map Prod.snd).flatten
  | [], _ => VRs.nil _
  | x :: l, h => by
    rw [List.map_cons, List.map_cons, List.flatten_cons, List.flatten_cons]
    exact (h x List.mem_cons_self).append (VRs.flat fun y hy => h y (List.mem_cons_of_mem _ hy))
theorem closeds_flat : ∀ {l : List (List AV)}, (∀ x ∈ l, AV.closeds x = true) → AV.closeds l.flatten = true
  | [], _ => rfl
  | x :: l, h => by
    rw [List.flatten_cons, closeds_iff]
    intro i y hy
    by_cases e : i < x.length
    · rw [List.getElem?_append_left e] at hy
      exact (closeds_iff.1 (h x List.mem_cons_self)) i y hy
    · rw [List.getElem?_append_right (by omega)] at hy
      exact (closeds_iff.1 (closeds_flat fun z hz => h z (List.mem_cons_of_mem _ hz))) _ y hy
theorem openT_slice {t e : TypeId} {sz : Nat} {Q : List AV → Prop} (ht : P.underlying t = some (.slice e)) (hsz : P.cellsOf e = sz) (h0 : 0 < sz) (he : OpenT enc P W e sz Q) : OpenT enc P W t 1 (QS sz Q) := fun m cs x h => by
  rcases DataW.trod_slice ht h with ⟨rfl, _⟩ | ⟨a, len, cap, elems, rest, n, _, rfl, _, _, hl, hc, hel, helem, _⟩
  · exact ⟨rfl, [.nils], VRs.cons .nils (VRs.nil _), rfl, .nils, rfl, .inl rfl⟩
  · refine ⟨rfl, ?_⟩
    have key : ∀ i, i < len → ∃ p : List AV × List Value, VRs (muOf W) p.1 p.2 ∧ AV.closeds p.1 = true ∧ Q p.1 ∧ p.2.length = sz ∧ ∀ j, j < sz → W.cell? ((a.add (i * sz)).add j) = p.2[j]? := fun i hi => by
      have h1 := helem i hi
      rw [List.getElem?_eq_getElem (by omega), hsz, Option.bind_eq_some_iff] at h1
      obtain ⟨ds, h1, h2⟩ := h1
      unfold World.cells? at h1
      split at h1
      · obtain ⟨k1, k2⟩ := range_mapM h1
        obtain ⟨_, avs, v1, v2, v3⟩ := he n ds _ h2
        exact ⟨(avs, ds), v1, v2, v3, k1, k2⟩
      · cases h1
    obtain ⟨l, l1, l2⟩ := choose_list len key
    have hm : ∀ p ∈ l, VRs (muOf W) p.1 p.2 ∧ AV.closeds p.1 = true ∧ Q p.1 ∧ p.2.length = sz := fun p hp => by
      obtain ⟨i, hi⟩ := List.mem_iff_getElem?.1 hp
      obtain ⟨a1, a2, a3, a4, _⟩ := l2 i p hi
      exact ⟨a1, a2, a3, a4⟩
    have hf1 : ∀ b ∈ l.map Prod.fst, b.length = sz := fun b hb => by
      obtain ⟨p, hp, rfl⟩ := List.mem_map.1 hb
      rw [(hm p hp).1.1]; exact (hm p hp).2.2.2
    have hf2 : ∀ b ∈ l.map Prod.snd, b.length = sz := fun b hb => by
      obtain ⟨p, hp, rfl⟩ := List.mem_map.1 hb
      exact (hm p hp).2.2.2
    have hcl : AV.closeds (l.map Prod.fst).flatten = true := closeds_flat fun b hb => by
      obtain ⟨p, hp, rfl⟩ := List.mem_map.1 hb
      exact (hm p hp).2.1
    have hspot : 0 < len → a.spot = none := fun hpos => by
      obtain ⟨p, hp⟩ : ∃ p, l[0]? = some p := ⟨l[0]'(by omega), List.getElem?_eq_getElem _⟩
      obtain ⟨_, _, _, a4, a5⟩ := l2 0 p hp
      have := a5 0 h0
      rw [List.getElem?_eq_getElem (by omega)] at this
      unfold World.cell? at this
      split at this
      · split at this
        · cases this
        · rename_i hs
          cases hsp : a.spot with
          | none => rfl
          | some s => exact absurd (show ((a.add (0 * sz)).add 0).spot.isSome = true by simp [Addr.add, hsp]) hs
      · cases this
    refine ⟨[.vs len sz (l.map Prod.fst).flatten], VRs.cons ?_ (VRs.nil _), by simp [closeds_cons, closed_vs, hcl, closeds_nil], _, rfl, .inr ⟨l.map Prod.fst, by simp [l1], hcl, fun r hr => ⟨hf1 r hr, ?_⟩⟩⟩
    · refine .vs_mk (k := a.block) (off := a.off) (ys := (l.map Prod.snd).flatten) hl (by rw [flatG_len hf1]; simp [l1]) (fun hpos => ?_) (VRs.flat fun p hp => (hm p hp).1) (fun q y hy => ?_) hcl
      · have : 0 < len := by
          rw [flatG_len hf1] at hpos
          rcases Nat.eq_zero_or_pos len with e | e
          · simp [l1, e] at hpos
          · exact e
        have := hspot this
        obtain ⟨k, off, s⟩ := a
        simp only at this
        subst this; rfl
      · have hq := (List.getElem?_eq_some_iff.1 hy).1
        rw [flatG_len hf2, List.length_map, l1] at hq
        have hi : q / sz < len := (Nat.div_lt_iff_lt_mul h0).2 hq
        have hsp := hspot (Nat.lt_of_le_of_lt (Nat.zero_le _) hi)
        obtain ⟨p, hp⟩ : ∃ p, l[q / sz]? = some p := ⟨l[q / sz]'(by rw [l1]; exact hi), List.getElem?_eq_getElem _⟩
        have hfl := flatG_at (ts := l.map Prod.snd) (i := q / sz) (x := p.2) (by rw [List.getElem?_map, hp]; rfl) hf2
        have hj : q % sz < sz := Nat.mod_lt _ h0
        have hqq : q / sz * sz + q % sz = q := by rw [Nat.mul_comm]; exact Nat.div_add_mod q sz
        have h1 : p.2[q % sz]? = some y := by
          rw [← hfl, List.getElem?_take, if_pos hj, List.getElem?_drop, hqq]; exact hy
        obtain ⟨_, _, _, _, a5⟩ := l2 _ p hp
        have h2 := a5 (q % sz) hj
        rw [h1] at h2
        obtain ⟨k, off, s⟩ := a
        simp only at hsp
        subst hsp
        rw [addr_add ⟨k, off, none⟩ (q / sz * sz) rfl, addr_add ⟨k, off + q / sz * sz, none⟩ (q % sz) rfl] at h2
        have h3 : W.cell? ⟨k, off + q / sz * sz + q % sz, none⟩ = some y := h2
        rw [Nat.add_assoc, hqq] at h3
        exact h3
    · obtain ⟨p, hp, rfl⟩ := List.mem_map.1 hr
      exact (hm p hp).2.2.1
/-- The fields of a struct, one behind the other: types, places, sizes. -/
def offsL : Nat → List (TypeId × Nat) → List (TypeId × Nat)
  | _, [] => []
  | o, (t, s) :: L => (t, o) :: offsL (o + s) L
def isSt (P : Program) (t : TypeId) (L : List (TypeId × Nat)) : Bool :=
  (match P.underlying t with
  | some (.struct fs) => fs.toList.map (fun f => (f.type, f.offset)) == offsL 0 L
  | _ => false) && L.all (fun p => P.cellsOf p.1 == p.2) && P.cellsOf t == (L.map Prod.snd).sum
inductive OpenL (enc : TypeId × Value → H) (P : Program) (W : World) : List (TypeId × Nat) → List (List AV → Prop) → Prop
  | nil : OpenL enc P W [] []
  | cons {t : TypeId} {s : Nat} {Q : List AV → Prop} {L : List (TypeId × Nat)} {Qs : List (List AV → Prop)} (h : OpenT enc P W t s Q) (hl : OpenL enc P W L Qs) : OpenL enc P W ((t, s) :: L) (Q :: Qs)
theorem openL_cells {L : List (TypeId × Nat)} {Qs : List (List AV → Prop)} (h : OpenL enc P W L Qs) : ∀ (o m : Nat) (cs : List Value), L.all (fun p => P.cellsOf p.1 == p.2) = true → o + (L.map Prod.snd).sum = cs.length →
    (∀ (i : Nat) p, (offsL o L)[i]? = some p → ∃ x, DataW.trod enc P W 0 (fun _ => true) true m p.1 ((cs.drop p.2).take (P.cellsOf p.1)) = some x) → ∃ avs, VRs (muOf W) avs (cs.drop o) ∧ AV.closeds avs = true ∧ QL Qs avs := by
  induction h with
  | nil =>
    intro o m cs _ ho _
    refine ⟨[], ?_, rfl, rfl⟩
    rw [List.drop_of_length_le (by simp at ho; omega)]
    exact VRs.nil _
  | @cons t s Q L Qs h hl ih =>
    intro o m cs hc ho hf
    simp only [List.all_cons, Bool.and_eq_true, beq_iff_eq] at hc
    simp only [List.map_cons, List.sum_cons] at ho
    obtain ⟨avs2, v1, v2, v3⟩ := ih (o + s) m cs hc.2 (by omega) fun i p hp => hf (i + 1) p hp
    obtain ⟨x, hx⟩ := hf 0 (t, o) rfl
    rw [hc.1] at hx
    obtain ⟨_, avs1, u1, u2, u3⟩ := h m _ x hx
    refine ⟨avs1 ++ avs2, ?_, ?_, avs1, avs2, rfl, u3, v3⟩
    · have : cs.drop o = (cs.drop o).take s ++ cs.drop (o + s) := by
        rw [← List.drop_drop]; exact (List.take_append_drop s _).symm
      rw [this]; exact u1.append v1
    · have := closeds_flat (l := [avs1, avs2]) (by intro y hy; simp at hy; rcases hy with rfl | rfl <;> assumption)
      simpa using this
theorem openT_struct {t : TypeId} {L : List (TypeId × Nat)} {Qs : List (List AV → Prop)} {sz : Nat} (ht : isSt P t L = true) (hsz : sz = (L.map Prod.snd).sum) (h : OpenL enc P W L Qs) : OpenT enc P W t sz (QL Qs) := fun m cs x hx => by
  unfold isSt at ht
  simp only [Bool.and_eq_true, beq_iff_eq] at ht
  obtain ⟨⟨h1, h2⟩, h3⟩ := ht
  split at h1
  · rename_i fs hfs
    simp only [beq_iff_eq] at h1
    obtain ⟨xs, n, _, _, hl, hxl, hf⟩ := DataW.trod_struct hfs hx
    refine ⟨by rw [hl, h3, hsz], ?_⟩
    have := openL_cells h 0 n cs h2 (by rw [hl, h3]; omega) fun i p hp => by
      rw [← h1, List.getElem?_map, Option.map_eq_some_iff] at hp
      obtain ⟨f, hf1, rfl⟩ := hp
      have hf2 : fs[i]? = some f := by rw [← Array.getElem?_toList]; exact hf1
      have := hf i f hf2
      have hi : i < xs.length := by
        rw [hxl]; exact (Array.getElem?_eq_some_iff.1 hf2).1
      rw [List.getElem?_eq_getElem hi] at this
      exact ⟨_, this⟩
    simpa using this
  · cases h1
/-- An argument that is a slice. -/
theorem open_argS {t e : TypeId} {sz : Nat} {Q : List AV → Prop} {v : Value} {d : DataW H} {ps : List MemPlace} (ht : P.underlying t = some (.slice e)) (ho : OpenT enc P W t 1 (QS sz Q)) (hval : Value.okWide P W .any 0 t v) (h : DataW.Trod enc P W 0 (fun _ => true) true t v d ps) :
    ∃ av, VR (muOf W) av v ∧ av.closed = true ∧ QS sz Q [av] := by
  obtain ⟨m, h⟩ := h
  have hna : ∀ xs, v ≠ .agg xs := by
    rintro xs rfl
    simp only [Value.okWide, ht, Cell.okWide, Cell.ok] at hval
  obtain ⟨h1, avs, h2, h3, h4⟩ := ho m _ _ h
  have hc : v.cells.toList = [v] := by cases v <;> first | rfl | exact absurd rfl (hna _)
  rw [hc] at h2
  obtain ⟨av, rfl, h5⟩ := h4
  refine ⟨av, h2.head, ?_, av, rfl, h5⟩
  simpa [closeds_cons, closeds_nil] using h3
/-- An argument that is a struct. -/
theorem open_argT {t : TypeId} {fs : Array Field} {sz : Nat} {Q : List AV → Prop} {v : Value} {d : DataW H} {ps : List MemPlace} (ht : P.underlying t = some (.struct fs)) (ho : OpenT enc P W t sz Q) (hval : Value.okWide P W .any 0 t v) (h : DataW.Trod enc P W 0 (fun _ => true) true t v d ps) :
    ∃ avs, VR (muOf W) (.agg avs) v ∧ AV.closeds avs = true ∧ Q avs := by
  obtain ⟨m, h⟩ := h
  simp only [Value.okWide, ht] at hval
  obtain ⟨cs, rfl, _⟩ := hval
  obtain ⟨h1, avs, h2, h3, h4⟩ := ho m _ _ h
  exact ⟨avs, VR.agg' h2, h3, h4⟩
/-! ### Shapes -/
theorem QS.ints {av : AV} (h : QS 1 QI [av]) : ∃ xs, IsI av xs := by
  obtain ⟨v, e, h⟩ := h
  cases e
  rcases h with rfl | ⟨rows, rfl, hc, hr⟩
  · exact ⟨[], isI_nil⟩
  · have : ∃ xs : List Int, rows.length = xs.length ∧ rows.flatten = cI xs := by
      clear hc
      induction rows with
      | nil => exact ⟨[], rfl, rfl⟩
      | cons r rows ih =>
        obtain ⟨xs, h1, h2⟩ := ih fun r hr' => hr r (List.mem_cons_of_mem _ hr')
        obtain ⟨_, n, rfl⟩ := hr _ List.mem_cons_self
        exact ⟨n :: xs, by simp [h1], by rw [List.flatten_cons, h2]; rfl⟩
    obtain ⟨xs, h1, h2⟩ := this
    rw [h1, h2]
    exact ⟨xs, isI_v xs⟩
end Go.Ai
/- Shapes of what comes in: rows of rows. -/
namespace Go.Ai.G
open Go.Ai
open Go.ChangeShapes Go.WideShapes Go.ChangeAt Go.RowKit
set_option linter.unusedVariables false
variable {H : Type} {enc : TypeId × Value → H} {P : Program} {W : World}
theorem QS_rows {av : AV} (h : QS 1 (QS 1 QI) [av]) : ∃ rows, IsRows av rows := by
  obtain ⟨v, e, h⟩ := h
  cases e
  rcases h with rfl | ⟨rows, rfl, hc, hr⟩
  · exact ⟨[], .inl ⟨rfl, rfl⟩⟩
  · have : ∃ xs : List (List Int), rows.length = xs.length ∧ rows.flatten.length = xs.length ∧ ∀ (j : Nat) x zs, rows.flatten[j]? = some x → xs[j]? = some zs → IsI x zs := by
      clear hc
      induction rows with
      | nil => exact ⟨[], rfl, rfl, fun j x zs h => by simp at h⟩
      | cons r rows ih =>
        obtain ⟨xs, h1, h2, h3⟩ := ih fun r hr' => hr r (List.mem_cons_of_mem _ hr')
        obtain ⟨hl, hq⟩ := hr _ List.mem_cons_self
        obtain ⟨w, rfl, _⟩ := id hq
        obtain ⟨zs, hz⟩ := QS.ints hq
        refine ⟨zs :: xs, by simp [h1], by simp [h2], fun j x z hx hzz => ?_⟩
        cases j with
        | zero => simp at hx hzz; subst hx hzz; exact hz
        | succ j => simp at hx hzz; exact h3 j x z hx hzz
    obtain ⟨xs, h1, h2, h3⟩ := this
    exact ⟨xs, .inr ⟨_, by rw [h1], h2, hc, h3⟩⟩
theorem open_rows {t s i : TypeId} {v : Value} {d : DataW H} {ps : List MemPlace} (ht : P.underlying t = some (.slice s)) (hs : P.underlying s = some (.slice i)) (hi : P.underlying i = some (.int .i64)) (cs : P.cellsOf s = 1) (ci : P.cellsOf i = 1) (hval : Value.okWide P W .any 0 t v) (h : DataW.Trod enc P W 0 (fun _ => true) true t v d ps) :
    ∃ av rows, IsRows av rows ∧ VR (muOf W) av v := by
  obtain ⟨av, h1, h2, h3⟩ := open_argS ht (openT_slice ht cs (by omega) (openT_slice hs ci (by omega) (openT_int hi))) hval h
  obtain ⟨rows, hr⟩ := QS_rows h3
  exact ⟨av, rows, hr, h1⟩
theorem open_bar {t i s r : TypeId} {fl : Array Field} {v : Value} {d : DataW H} {ps : List MemPlace} (ht : P.underlying t = some (.struct fl)) (hst : isSt P t [(i, 1), (s, 1), (r, 1)] = true) (hi : P.underlying i = some (.int .i64)) (hs : P.underlying s = some (.slice i)) (hr : P.underlying r = some (.slice s))
    (ci : P.cellsOf i = 1) (cs : P.cellsOf s = 1) (cr : P.cellsOf r = 1) (hval : Value.okWide P W .any 0 t v) (h : DataW.Trod enc P W 0 (fun _ => true) true t v d ps) :
    ∃ (n : Int) (av bv : AV) (es : List Int) (fs : List (List Int)), IsI av es ∧ IsRows bv fs ∧ VR (muOf W) (.agg [.int .i64 n, av, bv]) v := by
  obtain ⟨avs, h1, h2, h3⟩ := open_argT ht (openT_struct hst rfl (.cons (openT_int hi) (.cons (openT_slice hs ci (by omega) (openT_int hi)) (.cons (openT_slice hr cs (by omega) (openT_slice hs ci (by omega) (openT_int hi))) .nil)))) hval h
  obtain ⟨a, b, rfl, ⟨n, rfl⟩, c, e, rfl, hc, f, g, rfl, hf, rfl⟩ := h3
  obtain ⟨x, rfl, _⟩ := id hc
  obtain ⟨y, rfl, _⟩ := id hf
  obtain ⟨es, he⟩ := QS.ints hc
  obtain ⟨fs, hfs⟩ := QS_rows hf
  exact ⟨n, x, y, es, fs, he, hfs, h1⟩
end Go.Ai.G
