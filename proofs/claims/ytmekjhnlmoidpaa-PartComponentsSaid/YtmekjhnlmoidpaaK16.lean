/- A part of what the law leans on: the abstract machine, the contracts, the rows. -/
import Derived.RangeFuncBox
import Derived.RangeFuncLeaves
import Derived.Shelf.Abstract
import Derived.WalkKit
import Derived.OwnWalkIn
import Derived.TacticsInMore
import Derived.LoopNIn
import Derived.LoopIn
import Derived.Test.YtmekjhnlmoidpaaChecked
import Derived.Test.YtmekjhnlmoidpaaK9
namespace Go.Proofs.Ytmekjhnlmoidpaa.N
open Go.RowKit Go.Shelf Go.Ai
attribute [local go_sem] Oper.semAt_some
set_option linter.unusedVariables false
/-- What lay below n1 lies as it lay, but for B; edges lie as they lay. -/
structure KeepB (n1 B : Nat) (W W' : World) : Prop where
  size : W.heap.size ≤ W'.heap.size
  old : ∀ k, k < n1 → k ≠ B → W'.heap[k]? = W.heap[k]?
  edge : ∀ (k : Nat) c fr, W.heap[k]? = some (.cells c 46 fr) → W'.heap[k]? = some (.cells c 46 fr)
theorem KeepB.trans {n1 B : Nat} {X Y Z : World} (h : KeepB n1 B X Y) (k : KeepB n1 B Y Z) : KeepB n1 B X Z :=
  ⟨Nat.le_trans h.size k.size, fun i h1 h2 => (k.old i h1 h2).trans (h.old i h1 h2), fun i c fr h1 => k.edge i c fr (h.edge i c fr h1)⟩
theorem KeepB.refl (n1 B : Nat) (W : World) : KeepB n1 B W W := ⟨Nat.le_refl _, fun _ _ _ => rfl, fun _ _ _ h => h⟩
theorem KeepB.alloc {n1 B : Nat} {W : World} (h : n1 ≤ W.heap.size) (o : Obj) : KeepB n1 B W (W.alloc o) :=
  ⟨by simp, fun k hk _ => Below.heap_alloc W o k (by omega), fun k c fr hk => (Below.heap_alloc W o k (Array.getElem?_eq_some_iff.1 hk).1).trans hk⟩
theorem KeepB.cell {n1 B : Nat} {W W' : World} (h : KeepB n1 B W W') {b i : Nat} (h1 : b < n1) (h2 : b ≠ B) : W'.cell? ⟨b, i, none⟩ = W.cell? ⟨b, i, none⟩ := by
  simp only [World.cell?, h.old b h1 h2]

set_option maxRecDepth 100000 in
set_option maxHeartbeats 4000000 in
theorem near1_in (F : Fence) (n : Nat) (h43 : F.fn 45) (hro : F.round = none) (hn : 1 ≤ n) (l Bg Bv n1 B b off len cap : Nat) (v : Int) (es : List Ed) (hes : es.length = len) (hreach : len * 16 ≤ 140737488351232) (hb : b < n1 ∧ b ≠ B) (hg : Bg < n1 ∧ Bg ≠ B) (hv : Bv < n1 ∧ Bv ≠ B) (J Jx : List Int → World → Prop)
    (hY : ∀ pre x W, J pre W → pre.length < 2 * len → YieldAt F (n - 1) Try.prog l #[.int .i64 x] W fun e W' =>
      (e = .returned (.bool true) ∧ J (pre ++ [x]) W' ∧ KeepB n1 B W W') ∨ (e = .returned (.bool false) ∧ Jx (pre ++ [x]) W'))
    (W : World) (hn1 : n1 ≤ W.heap.size) (hJ : ∀ pre W1 o, J pre W1 → J pre (W1.alloc o)) (hG : W.cell? ⟨Bg, 1, none⟩ = some (.slice (some ⟨b, off, none⟩) len cap)) (hV : W.cell? ⟨Bv, 0, none⟩ = some (.int .i64 v))
    (hc : ∀ j (h : j < es.length), W.cell? ⟨b, off + j * 2, none⟩ = some (.int .i64 es[j].1) ∧ W.cell? ⟨b, off + j * 2 + 1, none⟩ = some (.int .i64 es[j].2)) (h0 : J [] W) :
    CallsIn F n Try.prog 45 #[.func (.yield l) #[] #[], .pointer (some ⟨Bg, 0, none⟩), .pointer (some ⟨Bv, 0, none⟩)] W fun e W' => (∃ v, e = .returned v) ∧
      ((∃ ys, ys = nbs v es ∧ J ys W') ∨ (∃ pre, pre <+: nbs v es ∧ Jx pre W')) := by
  refine callsIn_of_wp Try.func45 rfl h43 ?_ hro
  simp only [Try.ntmps45, List.size_toArray, List.length_cons, List.length_nil, Nat.reduceAdd, Nat.reduceSub, Array.replicate_succ, Array.replicate_zero, List.push_toArray, List.append_toArray, List.nil_append, List.cons_append]
  gi_wp2
  gi_loopw [9] (fun i wr => ∃ (k : Nat) (pre : List Int), k ≤ len ∧ i = .int .i64 k ∧ pre.length ≤ 2 * k ∧ pre ++ nbs v (es.drop k) = nbs v es ∧ J pre wr ∧ KeepB n1 B W wr)
    (fun i _ => len - (intOf i).toNat)
  case atStart => exact ⟨0, [], Nat.zero_le _, rfl, by simp, by simp, h0, KeepB.refl _ _ _⟩
  case round =>
    obtain ⟨k, pre, hk, rfl, hpl, hpe, hJs, hnx⟩ := hrel
    have hVr : wr.cell? ⟨Bv, 0, none⟩ = some (.int .i64 v) := (hnx.cell hv.1 hv.2).trans hV
    have hBv : Bv < wr.heap.size := by have := hnx.size; omega
    have hVa : (wr.alloc (.cells #[.int .i64 (es.getD k (0, 0)).1, .int .i64 (es.getD k (0, 0)).2] 46)).cell? ⟨Bv, 0, none⟩ = some (.int .i64 v) := (Below.cell ((Below.refl wr.heap.size wr).alloc (Nat.le_refl _) _) (p := ⟨Bv, 0, none⟩) hBv).trans hVr
    by_cases hlt : k < len
    · obtain ⟨c1, c2⟩ := hc k (by omega)
      have c1' : wr.cell? ⟨b, off + k * 2, none⟩ = some (.int .i64 es[k].1) := (hnx.cell hb.1 hb.2).trans c1
      have c2' : wr.cell? ⟨b, off + k * 2 + 1, none⟩ = some (.int .i64 es[k].2) := (hnx.cell hb.1 hb.2).trans c2
      have hdr : es.drop k = es[k] :: es.drop (k + 1) := List.drop_eq_getElem_cons (by omega)
      rw [hdr, nbs] at hpe
      have hgd : es.getD k (0, 0) = es[k] := by rw [List.getD_eq_getElem?_getD, List.getElem?_eq_getElem (by omega)]; rfl
      rw [hgd] at hVa
      generalize es[k].1 = x at *
      generalize es[k].2 = y at *
      by_cases hxv : x > v
      · rw [if_pos hxv, List.append_nil] at hpe
        gi_wp2
        refine bodyPost_ret (results_none rfl _ _ _) rfl ?_
        exact ⟨⟨_, rfl⟩, .inl ⟨_, hpe, hJ _ _ _ hJs⟩⟩
      rw [if_neg hxv] at hpe
      have hJx : J pre (wr.alloc (.cells #[.int .i64 x, .int .i64 y] 46)) := hJ _ _ _ hJs
      have hKx : KeepB n1 B W (wr.alloc (.cells #[.int .i64 x, .int .i64 y] 46)) := hnx.trans (KeepB.alloc (by have := hnx.size; omega) _)
      have hblk : (wr.alloc (.cells #[.int .i64 x, .int .i64 y] 46)).heap[wr.heap.size]? = some (.cells #[.int .i64 x, .int .i64 y] 46 (0, 0)) := World.alloc_heap_new wr _
      by_cases hyv : y = v
      · rw [if_pos hyv] at hpe
        subst hyv
        obtain ⟨fn, tmps, assign, body, hy, hR⟩ := hY pre x _ hJx (by omega)
        gi_wp2
        refine hR.mono ?_
        rintro e W3 (⟨rfl, hJ3, hk3⟩ | ⟨rfl, hJx3⟩)
        · have hblk3 := hk3.edge _ _ _ hblk
          have hK3 := hKx.trans hk3
          have hV3 : W3.cell? ⟨Bv, 0, none⟩ = some (.int .i64 y) := (hK3.cell hv.1 hv.2).trans hV
          have f0 : W3.cell? ⟨wr.heap.size, 0, none⟩ = some (.int .i64 x) := by simp [World.cell?, hblk3]
          have f1 : W3.cell? ⟨wr.heap.size, 1, none⟩ = some (.int .i64 y) := by simp [World.cell?, hblk3]
          by_cases hxv2 : x = y
          · rw [if_pos hxv2] at hpe
            subst hxv2
            obtain ⟨fn2, tmps2, assign2, body2, hy2, hR2⟩ := hY _ x _ hJ3 (by simp; omega)
            gi_wp2
            refine hR2.mono ?_
            rintro e W4 (⟨rfl, hJ4, hk4⟩ | ⟨rfl, hJx4⟩)
            · gi_wp2
              go_roundw
              case rel => exact ⟨k + 1, _, by omega, by simp, by simp; omega, by rw [← hpe]; simp, hJ4, hK3.trans hk4⟩
              case measure => simp [intOf]; omega
            · gi_wp2
              refine bodyPost_ret (results_none rfl _ _ _) rfl ?_
              exact ⟨⟨_, rfl⟩, .inr ⟨_, ⟨_, by rw [← hpe]; simp; rfl⟩, hJx4⟩⟩
          · rw [if_neg hxv2] at hpe
            have hb2 : (x == y) = false := by simp [hxv2]
            gi_wp2
            refine ⟨fun f h => (by cases h), ?_⟩
            gi_wp2
            exact ⟨⟨k + 1, _, by omega, by simp, by simp; omega, by rw [← hpe]; simp, hJ3, hK3⟩, by simp [intOf]; omega⟩
        · gi_wp2
          refine bodyPost_ret (results_none rfl _ _ _) rfl ?_
          exact ⟨⟨_, rfl⟩, .inr ⟨_, ⟨_, by rw [← hpe]; simp; rfl⟩, hJx3⟩⟩
      · rw [if_neg hyv] at hpe
        have hb1 : (y == v) = false := by simp [hyv]
        by_cases hxv2 : x = v
        · rw [if_pos hxv2] at hpe
          subst hxv2
          obtain ⟨fn, tmps, assign, body, hy, hR⟩ := hY pre y _ hJx (by omega)
          gi_wp2
          refine ⟨fun f h => (by cases h), ?_⟩
          gi_wp2
          refine hR.mono ?_
          rintro e W4 (⟨rfl, hJ4, hk4⟩ | ⟨rfl, hJx4⟩)
          · gi_wp2
            go_roundw
            case rel => exact ⟨k + 1, _, by omega, by simp, by simp; omega, by rw [← hpe]; simp, hJ4, hKx.trans hk4⟩
            case measure => simp [intOf]; omega
          · gi_wp2
            refine bodyPost_ret (results_none rfl _ _ _) rfl ?_
            exact ⟨⟨_, rfl⟩, .inr ⟨_, ⟨_, by rw [← hpe]; simp; rfl⟩, hJx4⟩⟩
        · rw [if_neg hxv2] at hpe
          have hb2 : (x == v) = false := by simp [hxv2]
          gi_wp2
          refine ⟨fun f h => (by cases h), ?_⟩
          gi_wp2
          exact ⟨⟨k + 1, pre, by omega, by simp, by omega, by rw [← hpe]; simp, hJx, hKx⟩, by simp [intOf]; omega⟩
    · obtain rfl : k = len := by omega
      have hpe' : pre = nbs v es := by
        have : es.drop k = [] := List.drop_eq_nil_of_le (by omega)
        rw [this] at hpe
        simpa [nbs] using hpe
      gi_wp2
      go_end0
      exact ⟨⟨_, rfl⟩, .inl ⟨_, hpe', hJs⟩⟩
end Go.Proofs.Ytmekjhnlmoidpaa.N
