/- A part of what the law leans on: the abstract machine, the contracts, the rows. -/
import Derived.Test.YtgoiomkgedcfjaaK14
import Derived.Test.YtgoiomkgedcfjaaK11
namespace Go.Proofs.Ytgoiomkgedcfjaa.N
open Go.RowKit Go.Shelf Go.Ai
attribute [local go_sem] Oper.semAt_some
set_option linter.unusedVariables false
theorem KeepB.put {n1 B : Nat} {w : World} (hn : n1 ≤ w.heap.size) (W : World) (l : Nat) (o o' : Obj) (hl : w.heap.size ≤ l) (h : W.heap[l]? = some o) (hc : o.isCells = false) (_ : o.isWalk = false) : KeepB n1 B W (W.putObj l o') := by
  have hg := grownBy_putObj' W l o'
  refine ⟨hg.size, fun k hk _ => hg.block k (by have := (Array.getElem?_eq_some_iff.1 h).1; omega) (fun e => by cases e; omega), fun k c fr hk => ?_⟩
  refine (hg.block k (Array.getElem?_eq_some_iff.1 hk).1 (fun e => ?_)).trans hk
  cases e
  rw [h] at hk; cases hk; cases hc
set_option maxRecDepth 100000 in
set_option maxHeartbeats 1000000 in
theorem near1_nil_in (F : Fence) (n : Nat) (h43 : F.fn 39) (hro : F.round = none) (l Bg Bv : Nat) (J : List Int → World → Prop) (W : World) (sa : Option Addr) (sc : Nat) (hG : W.cell? ⟨Bg, 1, none⟩ = some (.slice sa 0 sc)) (h0 : J [] W) :
    CallsIn F n Try.prog 39 #[.func (.yield l) #[] #[], .pointer (some ⟨Bg, 0, none⟩), .pointer (some ⟨Bv, 0, none⟩)] W fun e W' => (∃ v, e = .returned v) ∧ J [] W' := by
  refine callsIn_of_wp Try.func39 rfl h43 ?_ hro
  simp only [Try.ntmps39, List.size_toArray, List.length_cons, List.length_nil, Nat.reduceAdd, Nat.reduceSub, Array.replicate_succ, Array.replicate_zero, List.push_toArray, List.append_toArray, List.nil_append, List.cons_append]
  gi_wp2
  gi_loopw [9] (fun i wr => i = .int .i64 0 ∧ J [] wr) (fun _ _ => 0)
  case atStart => exact ⟨rfl, h0⟩
  case round =>
    obtain ⟨rfl, hJs⟩ := hrel
    gi_wp2
    go_end0
    exact ⟨⟨_, rfl⟩, hJs⟩
set_option maxHeartbeats 1000000 in
theorem near_in (F : Fence) (n : Nat) (h35 : F.fn 35) (hro : F.round = none) (N : Int) (s : Value) (hs : s.oneCell' = true) (v : Int) (w : World) :
    CallsIn F n Try.prog 35 #[.agg #[.int .i64 N, s], .int .i64 v] w fun e w' => e = .returned (.func (.func 39) #[] #[.pointer (some ⟨w.heap.size, 0, none⟩), .pointer (some ⟨w.heap.size + 1, 0, none⟩)]) ∧ w' = (w.alloc (.cells #[.int .i64 N, s] 27)).alloc (.cells #[.int .i64 v] 3) := by
  refine callsIn_of_wp Try.func35 rfl h35 ?_ hro
  simp only [Try.ntmps35, List.size_toArray, List.length_cons, List.length_nil, Nat.reduceAdd, Nat.reduceSub, Array.replicate_succ, Array.replicate_zero, List.push_toArray, List.append_toArray, List.nil_append, List.cons_append]
  gi_wp2
  go_ret
  exact ⟨rfl, rfl⟩
/-- THE NEIGHBOURS COME ONE BY ONE. -/
theorem near_stops (F : Fence) (n : Nat) (h43 : F.fn 39) (hro : F.round = none) (hn : 1 ≤ n) (Bg Bv n1 B : Nat) (s : Value) (v : Int) (es : List Ed) (hreach : es.length * 16 ≤ 140737488351232) (w : World) (hBg : Bg < n1 ∧ Bg ≠ B) (hBv : Bv < n1 ∧ Bv ≠ B) (hn1 : n1 ≤ w.heap.size)
    (hg : w.cell? ⟨Bg, 1, none⟩ = some s) (hv : w.cell? ⟨Bv, 0, none⟩ = some (.int .i64 v)) (hC : CE w s es) (hB : es ≠ [] → ∀ b off cap, s = .slice (some ⟨b, off, none⟩) es.length cap → b < n1 ∧ b ≠ B) :
    SeqStopsK F n Try.prog 39 #[.pointer (some ⟨Bg, 0, none⟩), .pointer (some ⟨Bv, 0, none⟩)] (fun x : Int => #[Value.int .i64 x]) (KeepB n1 B) (fun ys => ys = nbs v es) (fun pre => pre <+: nbs v es) (2 * es.length) w := fun l J Jx W hW hJ _ hY h0 => by
  have hg' := (hW.cell (p := ⟨Bg, 1, none⟩) (by show Bg < _; omega)).trans hg
  have hv' := (hW.cell (p := ⟨Bv, 0, none⟩) (by show Bv < _; omega)).trans hv
  have hal : ∀ pre W1 o, J pre W1 → J pre (W1.alloc o) := fun pre W1 o h => hJ pre W1 _ none h (World.grownBy_alloc W1 o none) (fun r e => by cases e)
  rcases hC.below (Nat.le_refl _) hW with ⟨sa, sc, rfl, rfl⟩ | ⟨b, off, cap, rfl, h1, h2, h3⟩
  · exact (near1_nil_in F n h43 hro l Bg Bv J W sa sc hg' h0).mono fun e W' ⟨he, hj⟩ => ⟨he, .inl ⟨_, rfl, hj⟩⟩
  by_cases h0' : es = []
  · subst h0'; exact (near1_nil_in F n h43 hro l Bg Bv J W _ _ hg' h0).mono fun e W' ⟨he, hj⟩ => ⟨he, .inl ⟨_, rfl, hj⟩⟩
  · exact near1_in F n h43 hro hn l Bg Bv n1 B b off es.length cap v es rfl hreach (hB h0' b off cap rfl) hBg hBv J Jx hY W (Nat.le_trans hn1 hW.size) hal hg' hv' h3 h0
end Go.Proofs.Ytgoiomkgedcfjaa.N
namespace Go.Proofs.Ytgoiomkgedcfjaa.N
open Go.RowKit Go.Shelf Go.Ai Go.Ai.G
attribute [local go_sem] Oper.semAt_some
set_option linter.unusedVariables false
set_option maxRecDepth 100000 in
set_option maxHeartbeats 4000000 in
theorem has_in (F : Fence) (n : Nat) (hF1 : F.fn 21) (hF2 : F.fn 25) (hF3 : F.fn 35) (hF4 : F.fn 39) (hro : F.round = none) (hn : 3 ≤ n) (N : Int) (sa : Option Addr) (sn sc : Nat) (a b : Int) (es : List Ed) (hlen : es.length ≤ 4000) (w : World) (hC : CE w (.slice sa sn sc) es)
    (hR : ∀ W', Below w.heap.size w W' → CallsIn F (n - 1) Try.prog 25 #[.agg #[.int .i64 N, .slice sa sn sc]] W' fun e w' => e = .returned (.bool true) ∧ Below W'.heap.size W' w') :
    CallsIn F n Try.prog 21 #[.agg #[.int .i64 N, .slice sa sn sc], .int .i64 a, .int .i64 b] w fun e W' => e = .returned (.bool ((nbs a es).contains b)) ∧ Below w.heap.size w W' := by
  have h1 : 1 ≤ n := by omega
  refine callsIn_of_wp_marks Try.func21 rfl hF1 ?_ hro
  simp only [Try.ntmps21, List.size_toArray, List.length_cons, List.length_nil, Nat.reduceAdd, Nat.reduceSub, Array.replicate_succ, Array.replicate_zero, List.push_toArray, List.append_toArray, List.nil_append, List.cons_append]
  obtain ⟨W3, hW3⟩ : ∃ W3, ((w.alloc (.cells #[.int .i64 N, .slice sa sn sc] 27)).alloc (.cells #[.int .i64 b] 3)).alloc (.cells #[.bool false] 4) = W3 := ⟨_, rfl⟩
  have hB3 : Below w.heap.size w W3 := by subst hW3; exact (((Below.refl _ w).alloc (Nat.le_refl _) _).alloc (by simp only [World.size_alloc]; omega) _).alloc (by simp only [World.size_alloc]; omega) _
  have hs3 : W3.heap.size = w.heap.size + 3 := by subst hW3; simp
  have g3 : W3.heap[w.heap.size]? = some (.cells #[.int .i64 N, .slice sa sn sc] 27 (0, 0)) := by subst hW3; exact (Below.heap_alloc _ _ _ (by simp only [World.size_alloc]; omega)).trans ((Below.heap_alloc _ _ _ (by simp only [World.size_alloc]; omega)).trans (World.alloc_heap_new w _))
  have b3 : W3.heap[w.heap.size + 1]? = some (.cells #[.int .i64 b] 3 (0, 0)) := by subst hW3; exact (Below.heap_alloc _ _ _ (by simp only [World.size_alloc]; omega)).trans (by have := World.alloc_heap_new (w.alloc (.cells #[.int .i64 N, .slice sa sn sc] 27)) (.cells #[.int .i64 b] 3); rwa [World.size_alloc] at this)
  have r3 : W3.heap[w.heap.size + 2]? = some (.cells #[.bool false] 4 (0, 0)) := by subst hW3; have := World.alloc_heap_new ((w.alloc (.cells #[.int .i64 N, .slice sa sn sc] 27)).alloc (.cells #[.int .i64 b] 3)) (.cells #[.bool false] 4); rwa [World.size_alloc, World.size_alloc] at this
  have f0 : W3.cell? ⟨w.heap.size, 0, none⟩ = some (.int .i64 N) := by simp [World.cell?, g3]
  have f1 : W3.cell? ⟨w.heap.size, 1, none⟩ = some (.slice sa sn sc) := by simp [World.cell?, g3]
  gi_wp2_with (first
    | (gi_at_call 25; refine (hR _ hB3).mono ?_; rintro e w1 ⟨rfl, hb1⟩; have hs1 : w.heap.size + 3 ≤ w1.heap.size := (by have := hb1.size; omega); have g1 := (hb1.block _ (by omega)).trans g3; have b1 := (hb1.block _ (by omega)).trans b3; have r1 := (hb1.block _ (by omega)).trans r3; have c0 : w1.cell? ⟨w.heap.size, 0, none⟩ = some (.int .i64 N) := (by simp [World.cell?, g1]); have c1 : w1.cell? ⟨w.heap.size, 1, none⟩ = some (.slice sa sn sc) := (by simp [World.cell?, g1]))
    | (gi_at_call 35; refine (near_in F (n - 1) hF3 hro N _ rfl a _).mono ?_; rintro e w' ⟨rfl, rfl⟩))
  obtain ⟨W5, hW5⟩ : ∃ W5, (w1.alloc (.cells #[.int .i64 N, .slice sa sn sc] 27)).alloc (.cells #[.int .i64 a] 3) = W5 := ⟨_, rfl⟩
  have hs5 : W5.heap.size = w1.heap.size + 2 := by subst hW5; simp
  have hB15 : Below w1.heap.size w1 W5 := by subst hW5; exact ((Below.refl _ w1).alloc (Nat.le_refl _) _).alloc (by simp only [World.size_alloc]; omega) _
  have hB5 : Below w.heap.size w W5 := hB3.trans ((hb1.mono (by omega)).trans (hB15.mono (by omega)))
  have g5 : W5.heap[w1.heap.size]? = some (.cells #[.int .i64 N, .slice sa sn sc] 27 (0, 0)) := by subst hW5; exact (Below.heap_alloc _ _ _ (by simp only [World.size_alloc]; omega)).trans (World.alloc_heap_new w1 _)
  have v5 : W5.heap[w1.heap.size + 1]? = some (.cells #[.int .i64 a] 3 (0, 0)) := by subst hW5; have := World.alloc_heap_new (w1.alloc (.cells #[.int .i64 N, .slice sa sn sc] 27)) (.cells #[.int .i64 a] 3); rwa [World.size_alloc] at this
  have b5 := (hB15.block _ (by omega)).trans b1
  have r5 := (hB15.block _ (by omega)).trans r1
  rw [hW5]
  refine wpIn_rangeFunc_ownG hro h1 (gf := 39) (lb := #[.pointer (some ⟨w1.heap.size, 0, none⟩), .pointer (some ⟨w1.heap.size + 1, 0, none⟩)]) rfl hF4 (enters_of Try.func39 (by kernel_rfl) rfl)
    (near_stops F (n - 1) hF4 hro (by omega) w1.heap.size (w1.heap.size + 1) (w1.heap.size + 2) (w.heap.size + 2) (.slice sa sn sc) a es (by omega) W5 ⟨by omega, by omega⟩ ⟨by omega, by omega⟩ (by omega) (by simp [World.cell?, g5]) (by simp [World.cell?, v5]) (hC.below (Nat.le_refl _) hB5) ?edges)
    (fun h k => h.trans k) (KeepB.put (by omega)) (Below.refl _ _) (fun _ => rfl)
    (fun pre W => ((∀ x ∈ pre, x ≠ b) ∧ W.cell? ⟨w.heap.size + 1, 0, none⟩ = some (.int .i64 b) ∧ W.cell? ⟨w.heap.size + 2, 0, none⟩ = some (.bool false) ∧ W.frozen? ⟨w.heap.size + 2, 0, none⟩ = false) ∧ Below w.heap.size w W)
    (fun c pre W => (c = .ret ∧ b ∈ pre ∧ W.cell? ⟨w.heap.size + 2, 0, none⟩ = some (.bool true)) ∧ Below w.heap.size w W)
    (OwnFrom.and (Own.from (fun s A B row hs hg hr => ⟨hs.1, cell_kept hs.2.1 hg hr, cell_kept hs.2.2.1 hg hr, (frozen_kept hs.2.2.1 hg hr).trans hs.2.2.2⟩) _) (ownFrom_below (Nat.le_refl _) (by omega)))
    (fun c => OwnFrom.and (Own.from (fun s A B row hs hg hr => ⟨hs.1, hs.2.1, cell_kept hs.2.2 hg hr⟩) _) (ownFrom_below (Nat.le_refl _) (by omega)))
    ⟨⟨by simp, by simp [World.cell?, b5], by simp [World.cell?, r5], by simp [World.frozen?, r5]⟩, hB5⟩
    (fun x => { tmps := #[.agg #[.int .i64 N, .slice sa sn sc], .int .i64 a, .int .i64 b, .pointer (some ⟨w.heap.size, 0, none⟩), undef, .pointer (some ⟨w.heap.size + 1, 0, none⟩), .pointer (some ⟨w.heap.size + 1 + 1, 0, none⟩), .int .i64 x, .agg #[.int .i64 N, .slice sa sn sc], .bool true, .bool false, .agg #[.int .i64 N, .slice sa sn sc], .int .i64 a, .func (.func 39) #[] #[.pointer (some ⟨w1.heap.size, 0, none⟩), .pointer (some ⟨w1.heap.size + 1, 0, none⟩)], .int .i64 x, undef, undef, undef], defers := [] }) ?assign ?body ?done ?stop
  case edges =>
    intro hne b0 off cap e
    rcases hC with ⟨a', c', e', h0⟩ | ⟨b', off', cap', e', _, hb', _⟩
    · exact absurd h0 hne
    · rw [e'] at e; cases e
      constructor <;> omega
  case assign =>
    intro l x W K hK
    gi_wp2
    exact hK
  case body =>
    rintro l pre x W ⟨⟨hp, hcb, hcr, hfr⟩, hB⟩ _
    by_cases hx : x = b
    · have hb1 : (x == b) = true := by simp [hx]
      gi_wp2
      exact ⟨(KeepsOthers.setCell _ _ _).from _, ⟨rfl, by simp [hx], World.cell?_setCell_same' _ _ _ (by rw [hcr]; rfl)⟩, hB.setCell (p := ⟨w.heap.size + 2, 0, none⟩) (by show w.heap.size ≤ w.heap.size + 2; omega) _⟩
    · have hb1 : (x == b) = false := by simp [hx]
      gi_wp2
      exact ⟨KeepsFrom.refl _ _, KeepB.refl _ _ _, ⟨fun y hy => (List.mem_append.1 hy).elim (hp y) (fun e => by simp at e; subst e; exact hx), hcb, hcr, hfr⟩, hB⟩
  case done =>
    rintro D ys W hD rfl ⟨⟨hne, hcb, hcr, hfr⟩, hB⟩ hK
    gi_wp2
    have hK' := (KeepsOthers.setCell W ⟨w.heap.size + 2, 0, none⟩ (.bool false)).same D _ hK rfl
    refine ⟨by simp, .inl ⟨_, _, rfl, run_takeDeferred hK', ?_⟩⟩
    have hc5 := cell_kept (World.cell?_setCell_same' W ⟨w.heap.size + 2, 0, none⟩ (.bool false) (by rw [hcr]; rfl)) (grownBy_putObj' _ D (.deferred none)) (fun r e => by cases e; exact ⟨_, hK', rfl⟩)
    have hcf : (nbs a es).contains b = false := by
      rw [← Bool.not_eq_true, List.contains_iff_mem]
      exact fun h => hne b h rfl
    refine ⟨.bool false, ?_, by rw [hcf], (hB.setCell (p := ⟨w.heap.size + 2, 0, none⟩) (by show w.heap.size ≤ w.heap.size + 2; omega) _).trans (belowK_b (w := w) (Nat.le_refl _) _ D _ _ (by omega) hK' rfl rfl)⟩
    simp [results, Try.f21, go_sem, hc5]
  case stop =>
    rintro D c pre W hD ⟨suf, hsuf⟩ ⟨⟨rfl, hmem, hcr⟩, hB⟩ hK
    gi_wp2
    refine ⟨by simp, .inl ⟨_, _, rfl, run_takeDeferred hK, ?_⟩⟩
    have hc5 := cell_kept hcr (grownBy_putObj' _ D (.deferred none)) (fun r e => by cases e; exact ⟨_, hK, rfl⟩)
    have hcf : (nbs a es).contains b = true := by
      rw [List.contains_iff_mem, ← hsuf]
      exact List.mem_append_left _ hmem
    refine ⟨.bool true, ?_, by rw [hcf], hB.trans (belowK_b (w := w) (Nat.le_refl _) _ D _ _ (by omega) hK rfl rfl)⟩
    simp [results, Try.f21, go_sem, hc5]
end Go.Proofs.Ytgoiomkgedcfjaa.N
