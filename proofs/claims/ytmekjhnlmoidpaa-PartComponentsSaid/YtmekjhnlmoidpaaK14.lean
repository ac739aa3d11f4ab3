/- A part of what the law leans on: the abstract machine, the contracts, the rows. -/
import Derived.Test.YtmekjhnlmoidpaaK11
import Derived.Test.YtmekjhnlmoidpaaK0
import Derived.Shelf.SlSortCmp.NoneTotal
import Derived.Test.YtmekjhnlmoidpaaK10
namespace Go.Proofs.Ytmekjhnlmoidpaa.N
open Go.RowKit Go.Maps Go.Ai Go.ChangeShapes Go.Shelf Go.Sort
set_option linter.unusedVariables false
set_option maxRecDepth 100000 in
theorem cmp_rows (ga na ca gb nb cb : Nat) (x y : Int) (W : World) (hna : 0 < na) (hnb : 0 < nb) (hx : W.cell? ⟨ga, 0, none⟩ = some (.int .i64 x)) (hy : W.cell? ⟨gb, 0, none⟩ = some (.int .i64 y)) (h1 : 0 ≤ x ∧ x ≤ 100000) (h2 : 0 ≤ y ∧ y ≤ 100000) :
    Calls Try.prog 33 #[.slice (some ⟨ga, 0, none⟩) na ca, .slice (some ⟨gb, 0, none⟩) nb cb] W fun e w' => e = .returned (.int .i64 (x - y)) ∧ ∃ q, w' = W.drewN q := by
  have hw : wrap64 (x - y) = x - y := by unfold wrap64; omega
  have hna' : (0 : Int) < na := by omega
  have hnb' : (0 : Int) < nb := by omega
  go_enter Try.func33, Try.ntmps33
  go_wp2
  go_region
  go_wp2
  go_ret
  exact ⟨rfl, 1, rfl⟩
theorem sortW_other {α : Type} [Inhabited α] {enc : α → Value} {w : World} {blk off m : Nat} {d : Array α} {os : Array Obj} (k : Nat) (hk : k ≠ blk) (hl : k < w.heap.size) : (sortWorld enc w blk off m d os).heap[k]? = w.heap[k]? := by
  unfold sortWorld
  rw [Go.Sort.heap_grow_old _ _ (by rw [Go.Sort.size_putRow]; exact hl)]
  unfold Go.Sort.putRow Go.Sort.mapBlock
  simp only [Array.getElem?_modify]
  rw [if_neg (fun h => hk h.symm)]
  rfl
theorem sortW_grown {α : Type} [Inhabited α] {enc : α → Value} {w : World} {blk off m : Nat} {d : Array α} {os : Array Obj} : w.grownBy (sortWorld enc w blk off m d os) (some blk) :=
  ⟨rfl, rfl, rfl, by unfold sortWorld; simp [Go.Sort.grow, Go.Sort.size_putRow, Go.Sort.ahead], fun i hi hne => sortW_other i (fun e => hne (by rw [e])) hi⟩
/-- slices.SortFunc at rows, by their first numbers. -/
theorem sort_rows (g cap m : Nat) (hm : 0 < m) (hm2 : m ≤ 100000) (W : World) (val : Fin m → Value) (rb rn rc : Fin m → Nat) (hd : Fin m → Int) (hval : ∀ j, val j = .slice (some ⟨rb j, 0, none⟩) (rn j) (rc j)) (hn : ∀ j, 0 < rn j)
    (hc : ∀ j, W.cell? ⟨rb j, 0, none⟩ = some (.int .i64 (hd j))) (hne : ∀ j, rb j ≠ g) (hb : ∀ j, 0 ≤ hd j ∧ hd j ≤ 100000) (hinj : ∀ i j, hd i = hd j → i = j) (hg : g < W.heap.size)
    (hrow : ∀ j : Fin m, W.cell? ⟨g, j.val, none⟩ = some (val j) ∧ W.frozen? ⟨g, j.val, none⟩ = false) :
    Calls Try.prog 32 #[.slice (some ⟨g, 0, none⟩) m cap, .func (.func 33) #[] #[]] W fun e w' => e = .returned (.tuple #[]) ∧
      ∃ σ : List (Fin m), σ.Perm (List.finRange m) ∧ (σ.Pairwise fun i j => hd i < hd j) ∧ (∀ (j : Nat) i, σ[j]? = some i → w'.cell? ⟨g, j, none⟩ = some (val i)) ∧ W.grownBy w' (some g) := by
  haveI : Inhabited (Fin m) := ⟨⟨0, hm⟩⟩
  have hlt : ∀ x y : Fin m, ltOf (fun i j => hd i - hd j) x y = decide (hd x < hd y) := fun x y => by
    unfold ltOf
    rw [Bool.eq_iff_iff]
    simp only [decide_eq_true_eq]
    omega
  have hO : SWO (ltOf fun i j : Fin m => hd i - hd j) := {
    irrefl := fun x => by rw [hlt]; simp
    trans := fun x y z h1 h2 => by rw [hlt] at *; simp at *; omega
    ntrans := fun x y z h1 h2 => by rw [hlt] at *; simp at *; omega }
  have eg : ∀ args w, (callFunc 33 args).run Try.prog w = .ok (.enter 33 args) w := Go.Ai.enters_of Try.func33 (by kernel_rfl) (by kernel_rfl)
  have hrbl : ∀ j, rb j < W.heap.size := fun j => by
    have := hc j
    simp only [World.cell?] at this
    exact Decidable.byContradiction fun h => by rw [Array.getElem?_eq_none (by omega)] at this; simp at this
  have hsz : ((List.finRange m).toArray).size = m := by simp
  have hS := Any.slices_SortFunc_total Try.sortRows val (fun j => by rw [hval]; rfl) (fun i j => hd i - hd j) hO 33 #[] g 0 cap ((List.finRange m).toArray) W eg
    (fun mm os dk hs x y => by
      have key : ∀ j, (sortWorld val W g 0 mm dk os).cell? ⟨rb j, 0, none⟩ = some (.int .i64 (hd j)) := fun j => by
        rw [← hc j]; simp only [World.cell?]; rw [sortW_other (rb j) (hne j) (hrbl j)]
      rw [hval x, hval y]
      refine (cmp_rows (rb x) (rn x) (rc x) (rb y) (rn y) (rc y) (hd x) (hd y) _ (hn x) (hn y) (key x) (key y) (hb x) (hb y)).mono ?_
      rintro e w' ⟨rfl, q, rfl⟩
      exact ⟨rfl, q, #[], by rw [Go.Sort.grow_empty]⟩)
    (fun j hj => by
      have hj' : j < m := by simpa using hj
      have e : ((List.finRange m).toArray)[j]! = (⟨j, hj'⟩ : Fin m) := by
        rw [getElem!_pos ((List.finRange m).toArray) j hj]; simp
      rw [e, Nat.zero_add]
      exact hrow ⟨j, hj'⟩) hg (by rw [hsz]; omega) (fun x y h1 h2 => by rw [hlt] at h1 h2; simp at h1 h2; exact hinj x y (by omega))
  rw [hsz] at hS
  refine Calls.mono hS ?_
  rintro e w' ⟨rfl, nn, os, rfl⟩
  have hp : ((List.finRange m).toArray.toList.mergeSort fun x y => !ltOf (fun i j => hd i - hd j) y x).Perm (List.finRange m) := List.mergeSort_perm _ _
  have hs : ((List.finRange m).toArray.toList.mergeSort fun x y => !ltOf (fun i j => hd i - hd j) y x).Pairwise fun i j => hd i ≤ hd j := by
    refine (List.pairwise_mergeSort (le := fun x y => !ltOf (fun i j => hd i - hd j) y x) (fun a b c h1 h2 => ?_) (fun a b => ?_) _).imp fun {a b} h => ?_
    · rw [hlt] at *; simp at *; omega
    · rw [hlt, hlt]; simp; omega
    · rw [hlt] at h; simp at h; exact h
  generalize ((List.finRange m).toArray.toList.mergeSort fun x y => !ltOf (fun i j => hd i - hd j) y x) = σ at *
  have hnd : σ.Nodup := hp.nodup_iff.2 (List.nodup_finRange m)
  have hl : σ.length = m := by rw [hp.length_eq]; simp
  refine ⟨rfl, σ, hp, ?_, fun j i hi => ?_, sortW_grown⟩
  · refine (List.Pairwise.and hs hnd).imp fun {a b} h => ?_
    have := h.1
    rcases Int.lt_or_eq_of_le h.1 with h' | h'
    · exact h'
    · exact absurd (hinj _ _ h') h.2
  · obtain ⟨hj, he⟩ := List.getElem?_eq_some_iff.1 hi
    have hH : Holds val W g 0 ((List.finRange m).toArray) := fun j hj => by
      have hj' : j < m := by simpa using hj
      have e : ((List.finRange m).toArray)[j]! = (⟨j, hj'⟩ : Fin m) := by
        rw [getElem!_pos ((List.finRange m).toArray) j hj]; simp
      rw [e, Nat.zero_add]
      exact hrow ⟨j, hj'⟩
    unfold sortWorld
    rw [cell?_grow _ _ _ (by rw [size_putRow]; exact hg)]
    have h2 := (holds_putRow val (Go.Sort.ahead W nn) g 0 _ σ.toArray hH (by simp [hl]) j (by simpa using hj)).1
    rw [Nat.zero_add] at h2
    rw [h2, getElem!_pos σ.toArray j (by simpa using hj)]
    simp [he]
end Go.Proofs.Ytmekjhnlmoidpaa.N
namespace Go.Proofs.Ytmekjhnlmoidpaa.N
open Go.RowKit Go.Maps Go.Ai Go.ChangeShapes Go.Shelf
set_option linter.unusedVariables false
set_option maxRecDepth 100000 in
set_option maxHeartbeats 4000000 in
theorem cls_walk (r : Nat → Nat) (n : Nat) (hn : n ≤ 1000) (hr : ∀ i, i < n → r i < n) (pb po : Nat) (J : Nat → World → Prop) (w : World) (hJ : J 0 w)
    (hup : ∀ t W, J t W → ∃ s c, W.cell? ⟨pb, po, none⟩ = some (.slice s n c))
    (hlow : ∀ t W W', J t W → Below w.heap.size W W' → J t W')
    (htop : ∀ t W (i : Nat), J t W → i < n → (t = 2 * i ∨ t = 2 * i + 1) → Calls Try.prog 29 #[.pointer (some ⟨pb, po, none⟩), .int .i64 i] W fun e W' => e = .returned (.int .i64 (r i)) ∧ J (t + 1) W' ∧ KeptUp w.heap.size W W') :
    Calls Try.prog 20 #[.pointer (some ⟨pb, po, none⟩)] w fun e W' => ∃ ov, e = .returned ov ∧ J (2 * n) W' ∧ ClsPost w.heap.size (cls r n) ov W' := by
  have hmm := @run_makeMap Try.prog
  obtain ⟨i0, hi, hz0, hz1, hz2⟩ := info_parts info_one
  obtain ⟨s0, c0, hc0⟩ := hup _ _ (hlow _ _ (w.alloc (.map #[] 0)) hJ ((Below.refl _ _).alloc (Nat.le_refl _) _))
  go_enter Try.func20, Try.ntmps20
  go_wp2
  go_loopw [18] (fun i wr => ∃ (k : Nat) (D : DataW Unit), k ≤ n ∧ i = .int .i64 k ∧ J (2 * k) wr ∧ wr.ownsGroups Try.prog 3 (w.heap.size + 1) 3 .i64 w.heap.size k D ∧ Gd r k D ∧ w.heap.size + 1 ≤ wr.heap.size)
    (fun i _ => n - (intOf i).toNat)
  case atStart => exact ⟨0, _, Nat.zero_le _, rfl, hlow _ _ _ hJ ((Below.refl _ _).alloc (Nat.le_refl _) _), World.ownsGroups_made _ _ _ _ _, gd_start r, by simp⟩
  case round =>
    obtain ⟨k, D, hk, rfl, hJr, hown, hG, hws⟩ := hrel
    by_cases hlt : k < n
    · have hwf : (Lit.int IntKind.i64 (r k : Int)).wf = true := WalkArith.wf_i64 (by have := hr k hlt; omega)
      have hkey := keyOf_int_mk (q := .i64) Try.underlying3 hwf
      go_wp2_with (first
        | (go_at_call 29; refine (htop (2 * k) _ k hJr hlt (.inl rfl)).mono ?_; rintro e W1 ⟨rfl, hJ1, hk1⟩; have hown1 := ownsGroups_up hown hk1 (Nat.le_refl _))
        | (at_lookup; refine wpList_lookup_groups2 _ rfl _ _ 61 rfl 3 42 3 .i64 law3 Try.underlying61 (zero_ints _) (w.heap.size + 1) w.heap.size k _ rfl hown1 (by unfold maxLen; omega) _ _ rfl hkey ?_; intro v zs hat hoi hzl hback)
        | (go_at_call 29; refine (htop (2 * k + 1) _ k hJ1 hlt (.inr rfl)).mono ?_; rintro e W2 ⟨rfl, hJ2, hk2⟩; obtain ⟨hoi2, hback2⟩ := hback W2 hk2; have hs1 := hk1.size; have hs2 := hk2.size)
        | (at_builtin; refine wpList_append_own_at _ rfl _ _ 42 rfl (w.heap.size + 1) 3 i0 (.int .i64 0) 1 8 Try.underlying42 hi hz0 hz1 hz2 rfl (by decide) _ _ _ rfl (hoi2.1.alloc _) ⟨W2.heap.size, 0, none⟩ 1 1 [.int .i64 k] rfl rfl (cell_one_new _ _ _) (ints_oneCell .i64 [(k : Int)]) (by unfold maxLen; omega) (by omega) (by simp; omega) ?_; intro v' w1 hown' hgrow hnil hloc)
        | (at_mapUpdate; refine wpList_mapUpdate_back _ rfl _ _ _ 61 rfl hback2 rfl rfl rfl ((World.grownBy_alloc _ _ _).trans hgrow) (hoi2.appended hown' (WalkArith.wf_i64 (by omega))) (by simp; omega) (hloc.imp id (fun h => ⟨_, h, by simp⟩)) ?_; intro w2 hown2 hgrow2)
        | go_in)
      have hall := (World.grownBy_alloc W2 _ _).trans hgrow
      have hs3 := hall.size
      have hs4 := hgrow2.size
      go_roundw
      case rel => exact ⟨k + 1, _, by omega, by go_num, hlow _ _ _ hJ2 ((Below.refl _ _).groups hoi2 hall hgrow2 (by omega) (Nat.le_succ _) (Nat.le_refl _)), hown2, gd_step hG hat hoi (hoi2.appended hown' (WalkArith.wf_i64 (by omega))), by omega⟩
      case measure => simp [intOf]; omega
    · have : k = n := by omega
      subst this
      obtain ⟨W0, hW0⟩ : ∃ W, W = wr := ⟨_, rfl⟩
      subst hW0
      have hsz : w.heap.size < W0.heap.size := by omega
      obtain ⟨es, clock, hbb, F, hes, hD, _⟩ := hown
      have hmap : W0.ownsMap Try.prog 3 (rowElem (H := Unit) W0 (w.heap.size + 1) 3 .i64) w.heap.size k D := ⟨es, clock, hbb, F, hes, hD⟩
      have hsizeD : Maps.size D ≤ k := by rw [hD, size_eq, length_sorted]; simpa using hes
      clear hD hes F hbb
      obtain ⟨i1, hi1, hy0, hy1, hy2⟩ := info_parts info_ints
      go_wp2_with (first
        | (at_range; refine wpList_range_own _ rfl _ 61 rfl 3 42 law3 Try.underlying61 _ w.heap.size k _ rfl hmap ?_; intro w0 hrg0 hg0 hs0)
        | go_in)
      go_frame
      go_loopw [7] (fun ov wx => ∃ (left : Lit → Bool) (cnt : Nat) (ks : List Int) (vs : List Value), wx.ranges Try.prog 3 (rowElem (H := Unit) W0 (w.heap.size + 1) 3 .i64) w.heap.size W0.heap.size k D left cnt ∧ Below W0.heap.size W0 wx ∧
          wx.ownsRow (W0.heap.size + 1) 42 1 ov ks.length vs ∧ ks.Nodup ∧ ks.length + cnt ≤ k ∧ (∀ x : Int, left (.int .i64 x) = true ↔ gcl r k x ≠ [] ∧ x ∉ ks) ∧ (∀ kl, left kl = true → ∃ x : Int, kl = .int .i64 x) ∧
          (∀ x ∈ ks, gcl r k x ≠ []) ∧ (ks = [] → ov = .slice none 0 0) ∧ ∀ (j : Nat) v x, vs[j]? = some v → ks[j]? = some x → W0.ownsInts (w.heap.size + 1) 3 .i64 v (gcl r k x))
        (fun _ wx => wx.rangeLeft w.heap.size W0.heap.size)
      case atStart =>
        refine ⟨_, _, [], [], hrg0, ⟨hg0.os, hg0.tape, hg0.output, hg0.size, fun j hj => hg0.block j hj (by simp)⟩, World.ownsRow_nil _ _ _ _, List.nodup_nil, ?_, fun x => ?_, fun kl hkl => ?_, by simp, fun _ => rfl, by simp⟩
        · simpa using hsizeD
        · rw [hG.2.2]
          simp
        · obtain ⟨x, rfl, _⟩ := (hG.2.2 kl).1 hkl
          exact ⟨x, rfl⟩
      case round =>
        obtain ⟨left, cnt, ks, vs, hrg, hbl, hrow, hnd, hcl, hleft, hint, hks, hnil0, hvs⟩ := hrel
        have hbs := hbl.size
        go_wp2_with (first
          | (at_next; refine wpList_next_ranges _ rfl _ rfl 3 law3 (rowElem (H := Unit) W0 (w.heap.size + 1) 3 .i64) (Value.int .i64) (fun v : Value => v) (fun key kl h => by obtain ⟨x, rfl, _⟩ := Maps.keyOf_int_inv Try.underlying3 h; exact ⟨x, rfl⟩) (fun v y h => ⟨v, rfl⟩) w.heap.size W0.heap.size k _ _ _ rfl hrg ?_ ?_)
          | go_in)
        · intro hc0 hl0
          have hall : ∀ x, x ∈ ks ↔ gcl r k x ≠ [] := fun x => ⟨hks x, fun h => Decidable.byContradiction fun hn => by
            have := (hleft x).2 ⟨h, hn⟩
            rw [hl0] at this; cases this⟩
          by_cases hke : ks = []
          · have hu := hnil0 hke
            subst hu
            have hce : cls r k = [] := by rw [← cls_of (xs := ks) hall (by rw [hke]; exact List.Pairwise.nil), hke]; rfl
            go_wp2_with (first
              | (go_at_call 32; refine Calls.mono (AnyF.slices_SortFunc_none (P := Try.prog) (ρ := Try.sortRows_ren) { Try.sortRows with } none 0 _ _) ?_; rintro e w3 ⟨rfl, rfl⟩)
              | go_in)
            go_ret
            exact ⟨_, rfl, hlow _ _ _ hJr (hbl.mono (by omega)), .inl ⟨hce, rfl⟩⟩
          · rcases hrow.2 with ⟨hu, h0⟩ | ⟨g, cap, cur, hu, hg, hh, hn2, hcap, hcs, htk⟩
            · exact absurd (List.length_eq_zero_iff.1 h0) hke
            subst hu
            have hm : 0 < ks.length := List.length_pos_iff.2 hke
            have hvl : vs.length = ks.length := by have := hrow.1; simpa using this
            have hgl : g < wr.heap.size := (Array.getElem?_eq_some_iff.1 hh).1
            have shp : ∀ j : Fin ks.length, ∃ p : Nat × Nat, vs[j.val] = .slice (some ⟨p.1, 0, none⟩) (gcl r k ks[j]).length p.2 ∧ w.heap.size + 1 ≤ p.1 ∧ p.1 < W0.heap.size ∧ (gcl r k ks[j]).length ≤ p.2 ∧
                ∀ (i : Nat) z, (gcl r k ks[j])[i]? = some z → W0.cell? ⟨p.1, i, none⟩ = some (.int .i64 z) := fun j => by
              obtain ⟨g', cap', q1, q2, q3, q4, q5⟩ := ownsInts_shape (hvs j.val vs[j.val] ks[j] (List.getElem?_eq_getElem (by omega)) (List.getElem?_eq_getElem j.isLt)) (hks _ (List.getElem_mem j.isLt))
              exact ⟨(g', cap'), q1, q2, q3, q4, q5⟩
            obtain ⟨f, hf⟩ := Classical.axiomOfChoice shp
            have hne0 : ∀ j : Fin ks.length, gcl r k ks[j] ≠ [] := fun j => hks _ (List.getElem_mem j.isLt)
            have hhd : ∀ j : Fin ks.length, (gcl r k ks[j])[0]? = some (ghd (gcl r k ks[j])) := fun j => by
              have := hne0 j
              cases h : gcl r k ks[j] with
              | nil => exact absurd h this
              | cons a l => rfl
            have hcw : ∀ (b i : Nat) u, b < W0.heap.size → W0.cell? ⟨b, i, none⟩ = some u → wr.cell? ⟨b, i, none⟩ = some u := fun b i u hb hu => by
              rw [← hu]; simp only [World.cell?, hbl.block b hb]
            have hSort := sort_rows g cap ks.length hm (by omega) wr (fun j => vs[j.val]) (fun j => (f j).1) (fun j => (gcl r k ks[j]).length) (fun j => (f j).2) (fun j => ghd (gcl r k ks[j]))
              (fun j => (hf j).1) (fun j => List.length_pos_iff.2 (hne0 j)) (fun j => hcw _ _ _ (hf j).2.2.1 ((hf j).2.2.2.2 0 _ (hhd j))) (fun j => by have := (hf j).2.2.1; omega)
              (fun j => by obtain ⟨i, h1, _, h3⟩ := (gcl_mem _ _ _ _).1 (ghd_mem (hne0 j)); rw [h3]; omega)
              (fun i j hij => by
                obtain ⟨a, _, h2, h3⟩ := (gcl_mem _ _ _ _).1 (ghd_mem (hne0 i))
                obtain ⟨b, _, h5, h6⟩ := (gcl_mem _ _ _ _).1 (ghd_mem (hne0 j))
                have hab : a = b := by have hij' : ghd (gcl r k ks[i]) = ghd (gcl r k ks[j]) := hij; omega
                subst hab
                have e : ks[i] = ks[j] := h2.symm.trans h5
                refine Fin.ext ?_
                have hpw := List.pairwise_iff_getElem.1 hnd
                rcases Nat.lt_trichotomy i.val j.val with h | h | h
                · exact absurd e (hpw _ _ i.isLt j.isLt h)
                · exact h
                · exact absurd e.symm (hpw _ _ j.isLt i.isLt h)) hgl
              (fun j => by
                have e1 : (cur.toList.take (ks.length * 1))[j.val]? = some vs[j.val] := by rw [htk, List.getElem?_eq_getElem (by omega)]
                rw [List.getElem?_take, if_pos (by omega), Array.getElem?_toList] at e1
                simp [World.cell?, World.frozen?, hh, e1])
            go_wp2_with (first
              | (go_at_call 32; refine Calls.mono hSort ?_; rintro e w3 ⟨rfl, σ, hp, hs, hcells, hgr⟩)
              | go_in)
            go_ret
            have hgs := hgr.size
            have hrows : (σ.map fun j => ks[j]).map (gcl r k) = cls r k := by
              refine cls_of (fun x => ?_) ?_
              · rw [← hall x, List.mem_map]
                constructor
                · rintro ⟨j, _, rfl⟩; exact List.getElem_mem j.isLt
                · intro hx
                  obtain ⟨j, hj, rfl⟩ := List.getElem_of_mem hx
                  exact ⟨⟨j, hj⟩, hp.mem_iff.2 (List.mem_finRange _), rfl⟩
              · rw [List.pairwise_map]; exact hs
            have hσl : σ.length = ks.length := by rw [hp.length_eq]; simp
            have hcl2 : (cls r k).length = ks.length := by rw [← hrows]; simp [hσl]
            refine ⟨_, rfl, hlow _ _ _ hJr ((hbl.mono (by omega)).grown hgr (by omega) (fun j hj => by cases hj; omega)), .inr ⟨g, cap, σ.map fun j => vs[j.val], ?_, ?_, by omega, by omega, by omega, by simp [hσl, hcl2], ?_, ?_⟩⟩
            · intro h; rw [h] at hcl2; simp at hcl2; omega
            · rw [hcl2]; rfl
            · intro j v hv
              rw [List.getElem?_map, Option.map_eq_some_iff] at hv
              obtain ⟨i, hi, rfl⟩ := hv
              exact hcells j i hi
            · intro j v zs hv hz
              rw [← hrows, List.map_map, List.getElem?_map, Option.map_eq_some_iff] at hz
              obtain ⟨i, hi, rfl⟩ := hz
              rw [List.getElem?_map, hi] at hv
              cases hv
              obtain ⟨q1, q2, q3, q4, q5⟩ := hf i
              refine ⟨(f i).1, (f i).2, q1, q4, by omega, by omega, fun a z ha => ?_⟩
              have := hcw _ _ _ q3 (q5 a z ha)
              rw [← this]; simp only [World.cell?]; rw [hgr.block _ (by omega) (fun e => by cases e; omega)]
        · intro x c kl y y2 w1 cnt1 hkey hlx hR hat hrg1 hlt1 hg1 hs1 hen
          obtain ⟨x', e', rfl, hwx⟩ := Maps.keyOf_int_inv Try.underlying3 hkey
          cases e'
          obtain ⟨zs, hoi, ey⟩ := rowElem_inv hR
          have hy : y = rowDatum .i64 c zs := congrArg Prod.fst ey
          obtain ⟨hx1, hx2⟩ := (hleft x).1 hlx
          have hzs : zs = gcl r k x := by
            refine rowd_inj (q := .i64) ?_ hoi
            rw [← hG.2.1 x, hat, hy]
          subst hzs
          obtain ⟨ad, m, cp, rfl⟩ : ∃ ad m cp, c = .slice ad m cp := by
            rcases hoi.1.2 with ⟨rfl, _⟩ | ⟨g, cap, cur, rfl, _⟩ <;> exact ⟨_, _, _, rfl⟩
          have hs1b : W0.heap.size < w1.heap.size := by have := hrg1.lt; omega
          clear hs1
          have hub : ∀ j, u7.ownBlock = some j → W0.heap.size + 1 ≤ j := fun j hj => (hrow.lt j hj).1
          have hne : u7.ownBlock = none ∨ u7.ownBlock ≠ some W0.heap.size := by
            cases hu : u7.ownBlock with
            | none => exact .inl rfl
            | some j => exact .inr (fun e => by have := hub j hu; cases e; omega)
          have hrow1 := hrow.kept hg1 hne
          go_wp2_with (first
            | (at_builtin; go_loud (refine wpList_append_own_at _ rfl _ _ 33 rfl (W0.heap.size + 1) 42 i1 (.slice none 0 0) 1 24 Try.underlying33 hi1 hy0 hy1 hy2 rfl (by decide) _ _ _ rfl (hrow1.alloc _) ⟨w1.heap.size, 0, none⟩ 1 1 [.slice ad m cp] rfl rfl (cell_one_new _ _ _) (by simp [Value.oneCell']) (by unfold maxLen; omega) (by omega) (by simp; omega) ?_); intro v' w2 hown' hgrow hnil hloc)
            | go_in)
          have hall := (World.grownBy_alloc w1 _ _).trans hgrow
          have hne2 : ∀ i, i ≤ W0.heap.size → some i ≠ u7.ownBlock := fun i hi e => by have := hub i e.symm; omega
          have hrg2 := hrg1.kept hall (hne2 _ (by omega)) (hne2 _ (Nat.le_refl _))
          go_roundw
          case rel =>
            refine ⟨_, cnt1, ks ++ [x], vs ++ [.slice ad m cp], hrg2, (hbl.grown hg1 (by omega) (fun j hj => by cases hj; exact Nat.le_refl _)).grown hall (by omega) (fun j hj => by have := hub j hj; omega), ?_, ?_, ?_, fun z => ?_, fun kl hkl => ?_, ?_, fun h => by simp at h, ?_⟩
            · simpa using hown'
            · rw [List.nodup_append]; exact ⟨hnd, by simp, fun a ha b hb e => by simp at hb; subst hb; subst e; exact hx2 ha⟩
            · simp; omega
            · simp only [Bool.and_eq_true, hleft z, List.mem_append, List.mem_singleton]
              by_cases hzx : z = x
              · subst hzx; simp [Lit.sameKey]
              · have hk : (Lit.int IntKind.i64 z).sameKey (.int .i64 x) = false := sameKey_ne (by simp; exact hzx)
                simp [hk, hzx]
            · simp only [Bool.and_eq_true] at hkl
              exact hint kl hkl.1
            · intro z hz
              rcases List.mem_append.1 hz with hz | hz
              · exact hks z hz
              · simp at hz; subst hz; exact hx1
            · intro j v z hv hz
              have hvl : vs.length = ks.length := by have := hrow.1; simpa using this
              by_cases hj : j < ks.length
              · rw [List.getElem?_append_left (by omega)] at hv
                rw [List.getElem?_append_left hj] at hz
                exact hvs j v z hv hz
              · have : j = ks.length := by
                  have := (List.getElem?_eq_some_iff.1 hz).1
                  simp at this; omega
                subst this
                rw [List.getElem?_append_right (by omega)] at hv
                rw [List.getElem?_append_right (by omega)] at hz
                rw [hvl] at hv
                simp at hv hz
                subst hv; subst hz; exact hoi
          case measure => rw [hrg2.left_eq, hrg.left_eq]; omega
end Go.Proofs.Ytmekjhnlmoidpaa.N
namespace Go.Proofs.Ytmekjhnlmoidpaa.N
open Go.RowKit Go.Ai
set_option linter.unusedVariables false
theorem UpAt.trans {a b c : World} {ub uo : Nat} {up up2 : List Int} (h : UpAt a b ub uo up) (k : UpAt b c ub uo up2) : UpAt a c ub uo up2 :=
  ⟨k.cell, fun o u hu => by obtain ⟨v, hv⟩ := h.ex o u hu; exact k.ex o v hv, fun o => (k.fz o).trans (h.fz o), h.grown.trans k.grown⟩
theorem UpAt.below {a b c : World} {n1 ub uo : Nat} {up : List Int} (h : UpAt a b ub uo up) (hu : ub < n1) (hn : n1 = a.heap.size) (k : Below n1 b c) : UpAt a c ub uo up := by
  have hb := k.block ub hu
  refine ⟨fun i z hi => by rw [← h.cell i z hi]; simp only [World.cell?, hb], fun o u hu => ?_, fun o => by rw [← h.fz o]; simp only [World.frozen?, hb], ?_⟩
  · obtain ⟨v, hv⟩ := h.ex o u hu
    exact ⟨v, by rw [← hv]; simp only [World.cell?, hb]⟩
  · have hg := h.grown
    exact ⟨k.os.trans hg.os, k.tape.trans hg.tape, k.output.trans hg.output, Nat.le_trans hg.size k.size, fun j hj hne => by rw [k.block j (by omega)]; exact hg.block j hj hne⟩
theorem cls_ext : ∀ args H out, clsExt args H = some out → Enters Try.prog 20 ∧ H.length ≤ out.heap.length ∧ ∀ B μ w us, HR B μ H w → VRs μ args us → Calls Try.prog 20 us.toArray w (OutR B μ H w out) := by
  intro args H out h
  unfold clsExt at h
  split at h
  · rename_i b g
    split at h
    · rename_i g' b1 g1 n n' s cn hb
      split at h
      · rename_i hcnd
        obtain ⟨rfl, rfl, hn, hbb⟩ := hcnd
        split at h
        · rename_i g1' cs hb1
          split at h
          · rename_i hg1
            subst hg1
            split at h
            · rename_i up hcs
              split at h
              · rename_i hok
                cases h
                refine ⟨Go.Ai.enters_of Try.func20 (by kernel_rfl) (by kernel_rfl), by simp [Out.heap], fun B μ w us hH hv => ?_⟩
                have hcs' := decI_spec hcs
                subst hcs'
                obtain ⟨u1, t1, rfl, h1, hv⟩ := hv.cases_cons
                have := hv.cases_nil; subst this
                cases h1 with
                | @ptr _ _ _ a hab =>
                  obtain ⟨a', ha', hob⟩ := hH.ob b _ hb (by simp)
                  simp only [Ob.gen] at ha'
                  rw [hab] at ha'; cases ha'
                  obtain ⟨a1, ha1, hob1⟩ := hH.ob b1 _ hb1 (by simp)
                  simp only [Ob.gen] at ha1
                  have hne : a.blk ≠ a1.blk := hH.sep b b1 _ _ a a1 hb hb1 hbb rfl (by simp) hab ha1
                  obtain ⟨hbl, hcl, hcells, _, _⟩ := hob
                  obtain ⟨hbl1, hcl1, hcells1, _, hrw1⟩ := hob1
                  obtain ⟨hB1, hrw1⟩ := hrw1 rfl
                  obtain ⟨u0, hu0, hvu0⟩ := hcells 0 _ rfl
                  have D := okUp_dec hok
                  have hd := fun i (_ : i < n') => depU_le up n' i
                  have hlen := D.len
                  have hcIl : (cI up).length = up.length := by simp [cI]
                  have hJ0 : UpAt w w a1.blk a1.off up := ⟨fun i z hi => by
                    obtain ⟨u, hu, hvu⟩ := hcells1 i (.int .i64 z) (by simp [cI, hi])
                    cases hvu; exact hu, fun o u h => ⟨u, h⟩, fun _ => rfl, ⟨rfl, rfl, rfl, Nat.le_refl _, fun _ _ _ => rfl⟩⟩
                  have hfz : ∀ i, i < n' → w.frozen? ⟨a1.blk, a1.off + i, none⟩ = false := fun i hi => (hrw1 i (by omega)).2
                  have hcl := cls_walk (iterU up n') n' hn (fun i hi => D.rlt i hi) a.blk (a.off + 0) (fun t W => UpAt w W a1.blk a1.off (allTop n' up t)) w hJ0
                    (fun t W hJ => by
                      have e : W.cell? ⟨a.blk, a.off + 0, none⟩ = some u0 := by rw [← hu0]; simp only [World.cell?]; rw [hJ.grown.block a.blk hbl (fun e => hne (Option.some.inj e))]
                      cases hvu0 with
                      | sl h1 h2 h3 h4 => exact ⟨_, _, e⟩)
                    (fun t W W' hJ hb => hJ.below hbl1 rfl hb)
                    (fun t W i hJ hi ht => by
                      have e : W.cell? ⟨a.blk, a.off + 0, none⟩ = some u0 := by rw [← hu0]; simp only [World.cell?]; rw [hJ.grown.block a.blk hbl (fun e => hne (Option.some.inj e))]
                      cases hvu0 with
                      | sl h1 h2 h3 h4 =>
                        obtain ⟨a2, ha2, rfl, _⟩ := h4 (by omega)
                        rw [ha1] at ha2; cases ha2
                        have hti : t / 2 = i := by omega
                        refine (top_walk n' (iterU up n') (depU up n') (allTop n' up t) i W a.blk (a.off + 0) a1.blk a1.off _ hne e hn (allTop_dec D hd t (by omega)) hi (hd i hi) ⟨hJ.cell, fun o u h => ⟨u, h⟩, fun _ => rfl, ⟨rfl, rfl, rfl, Nat.le_refl _, fun _ _ _ => rfl⟩⟩ (fun j hj => (hJ.fz _).trans (hfz j hj))).mono ?_
                        rintro e' W' ⟨rfl, hU⟩
                        have hx : allTop n' up (t + 1) = (topF n' (allTop n' up t) i).2 := by rw [allTop, hti]
                        refine ⟨rfl, by rw [hx]; exact hJ.trans hU, ⟨hU.grown.os, hU.grown.tape, hU.grown.output, hU.grown.size, fun k hk hk2 => hU.grown.block k hk2 (fun e => by have := Option.some.inj e; omega)⟩⟩)
                  refine hcl.mono ?_
                  rintro e W' ⟨ov, rfl, hJ', hpost⟩
                  have D2 := allTop_dec D hd (2 * n') (Nat.le_refl _)
                  have hg := hJ'.grown
                  have hcl2 : (cI (allTop n' up (2 * n'))).length = up.length := by simp [cI, D2.len, hlen]
                  obtain ⟨r1, r2⟩ := hH.repl (w' := W'.drewN w.drawn) (c1 := cI (allTop n' up (2 * n'))) (g1 := g1') (a1 := a1) hb1 ha1 (Mu.le_refl μ) ha1 (fun _ _ _ => rfl) (fun g' x hx => hH.gen b1 _ g' x hb1 (by simp) hx) (.inl rfl)
                    (fun k hk hne' => hg.block k hk (fun e => hne' (Option.some.inj e))) hg.size hg.os hg.tape hg.output (by show w.drawn ≤ W'.drawn + w.drawn; omega)
                    ⟨Nat.lt_of_lt_of_le hbl1 hg.size, by rw [hcl2, ← hcIl]; exact hcl1, fun i v hv => by
                      simp only [cI, List.getElem?_map, Option.map_eq_some_iff] at hv
                      obtain ⟨z, hz, rfl⟩ := hv
                      exact ⟨_, hJ'.cell i z hz, .int _ _⟩, fun h => (by cases h), fun _ => ⟨hB1, fun i hi => by
                      obtain ⟨⟨u, hu⟩, hf⟩ := hrw1 i hi
                      exact ⟨hJ'.ex _ _ hu, (hJ'.fz _).trans hf⟩⟩⟩ rfl
                  have rH : HR B μ (H.set b1 (.cells g1' false (cI (allTop n' up (2 * n'))))) W' := ⟨r1.ob, r1.sep, r1.gen, r1.fresh, r1.base, r1.im, r1.imsep⟩
                  have him : ∀ k o u, μ.im k o = some u → k < w.heap.size := fun k o u h => (hH.im k o u h).1
                  have hpl : ∀ (b : Nat) o a, (H.set b1 (.cells g1' false (cI (allTop n' up (2 * n')))))[b]? = some o → o ≠ .dead → μ b o.gen = some a → a.blk < w.heap.size := by
                    intro b' o a' hb' hd' ha'
                    rw [List.getElem?_set] at hb'
                    split at hb'
                    · rename_i e
                      subst e
                      split at hb'
                      · cases hb'
                        simp only [Ob.gen] at ha'
                        rw [ha1] at ha'; cases ha'
                        exact hbl1
                      · cases hb'
                    · obtain ⟨a3, ha3, hob3⟩ := hH.ob b' o hb' hd'
                      rw [ha3] at ha'; cases ha'
                      exact hob3.lt hd'
                  have hle := seal_le (W := W') him
                  have rS := rH.seal hpl him
                  have hvr : VR (sealM μ w.heap.size W') (rowsV (cls (iterU up n') n')) ov := by
                    generalize cls (iterU up n') n' = rows at hpost ⊢
                    rcases hpost with ⟨rfl, rfl⟩ | ⟨gb, cap, vs, hr0, rfl, hcap, hgn, hgl, hvl, hvc, hvr⟩
                    · exact VR.nils
                    · unfold rowsV
                      rw [if_neg hr0]
                      refine VR.vs_mk (k := gb) (off := 0) (ys := vs) hcap (by simp) (fun _ => rfl) ⟨by simp [hvl], fun j x y hx hy => ?_⟩ (fun j y hy => ?_) ?_
                      · rw [List.getElem?_map, Option.map_eq_some_iff] at hx
                        obtain ⟨zs, hz, rfl⟩ := hx
                        obtain ⟨rb, rc, rfl, h1, h2, h3, h4⟩ := hvr j y zs hy hz
                        refine VR.vs_mk (k := rb) (off := 0) (ys := zs.map (Value.int .i64)) h1 (by simp [cI]) (fun _ => rfl) ⟨by simp [cI], fun i x y hx hy => ?_⟩ (fun i y hy => ?_) (closeds_cI _)
                        · simp only [cI, List.getElem?_map, Option.map_eq_some_iff] at hx hy
                          obtain ⟨z, hz, rfl⟩ := hx
                          obtain ⟨z', hz', rfl⟩ := hy
                          rw [hz] at hz'; cases hz'
                          exact .int _ _
                        · simp only [List.getElem?_map, Option.map_eq_some_iff] at hy
                          obtain ⟨z, hz, rfl⟩ := hy
                          simp only [sealM]
                          rw [if_pos h2, Nat.zero_add]; exact h4 i z hz
                      · simp only [sealM]
                        rw [if_pos hgn, Nat.zero_add]; exact hvc j y hy
                      · rw [closeds_iff]
                        intro i x hx
                        rw [List.getElem?_map, Option.map_eq_some_iff] at hx
                        obtain ⟨zs, _, rfl⟩ := hx
                        exact closeds_cI zs
                  refine ⟨ov, sealM μ w.heap.size W', rfl, hvr, rS, ⟨hle, r2.len, r2.calm, r2.blk, r2.frame, r2.size, r2.os, r2.tape, r2.output, fun h => Bool.noConfusion (show false = true from h), fun k o u hu => ?_⟩⟩
                  simp only [sealM] at hu
                  split at hu
                  · rename_i hk; exact .inr (.inl hk)
                  · exact .inl hu
              · cases h
            · cases h
          · cases h
        · cases h
      · cases h
    · cases h
  · cases h
end Go.Proofs.Ytmekjhnlmoidpaa.N
