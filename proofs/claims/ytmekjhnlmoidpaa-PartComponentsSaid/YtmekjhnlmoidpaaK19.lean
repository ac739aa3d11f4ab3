/- A part of what the law leans on: the abstract machine, the contracts, the rows. -/
import Derived.Test.YtmekjhnlmoidpaaK18
import Derived.Maps.AppendAt
namespace Go.Proofs.Ytmekjhnlmoidpaa.N
open Go.RowKit Go.Shelf Go.Ai Go.Ai.G
attribute [local go_sem] Oper.semAt_some
set_option linter.unusedVariables false
theorem KeepB.append {n1 B : Nat} {W w1 : World} {t e : TypeId} {u v' : Value} {k : Nat} {xs : List Value} {tmp : Obj} (hn : n1 ≤ W.heap.size) (hv : Boxed W B t u) (ht : t ≠ 46) (hrow : W.ownsRow n1 e 1 u k xs) (he : e ≠ 46)
    (hgrow : (W.alloc tmp).grownBy w1 u.ownBlock) : KeepB n1 B W (w1.setCell ⟨B, 0, none⟩ v') := by
  have hsz : W.heap.size + 1 ≤ w1.heap.size := by have := hgrow.size; simpa using this
  have hown : ∀ g, u.ownBlock = some g → n1 ≤ g ∧ ∃ cur, W.heap[g]? = some (.cells cur e (0, 0)) := by
    intro g hg
    rcases hrow.2 with ⟨rfl, _⟩ | ⟨g', cap, cur, rfl, hb, hblk, _⟩
    · simp [Value.ownBlock] at hg
    · obtain rfl : g' = g := by simpa [Value.ownBlock] using hg
      exact ⟨hb, cur, hblk⟩
  have key : ∀ k, k < W.heap.size → k ≠ B → some k ≠ u.ownBlock → (w1.setCell ⟨B, 0, none⟩ v').heap[k]? = W.heap[k]? := by
    intro k hk h1 h2
    rw [Below.heap_setCell _ _ _ k h1, hgrow.block k (by simp; omega) h2, Below.heap_alloc W tmp k hk]
  refine ⟨by simp [World.setCell]; omega, fun k hk hne => key k (by omega) hne (fun e' => ?_), fun k c fr hk => ?_⟩
  · have := (hown k e'.symm).1; omega
  · refine (key k (Array.getElem?_eq_some_iff.1 hk).1 (fun e' => ?_) (fun e' => ?_)).trans hk
    · subst e'
      rw [show W.heap[k]? = _ from hv] at hk
      simp at hk; exact ht hk.2.1
    · obtain ⟨_, cur, h2⟩ := hown k e'.symm
      rw [h2] at hk
      simp at hk; exact he hk.2.1
theorem ownsRow_base {W : World} {b b' : Nat} {e : TypeId} {size : Nat} {v : Value} {k : Nat} {xs : List Value} (h : W.ownsRow b e size v k xs) (hb : b' ≤ b) : W.ownsRow b' e size v k xs := by
  refine ⟨h.1, ?_⟩
  rcases h.2 with h | ⟨g, cap, cur, e1, e2, e3⟩
  · exact .inl h
  · exact .inr ⟨g, cap, cur, e1, Nat.le_trans hb e2, e3⟩
theorem info_int : (Try.prog.info? 3).map (fun i => (i.zero, i.size, i.bytes)) = some (some (.int .i64 0), 1, 8) := by kernel_rfl
theorem under_ints : Try.prog.underlying 42 = some (.slice 3) := by kernel_rfl
set_option maxRecDepth 100000 in
set_option maxHeartbeats 4000000 in
theorem nearx_in (F : Fence) (n : Nat) (hF1 : F.fn 25) (hF2 : F.fn 34) (hF3 : F.fn 39) (hF4 : F.fn 45) (hro : F.round = none) (hn : 3 ≤ n) (N : Int) (sa : Option Addr) (sn sc : Nat) (a : Int) (es : List Ed) (hlen : es.length ≤ 4000) (w : World) (hC : CE w (.slice sa sn sc) es)
    (hR : ∀ W', Below w.heap.size w W' → CallsIn F (n - 1) Try.prog 34 #[.agg #[.int .i64 N, .slice sa sn sc]] W' fun e w' => e = .returned (.bool true) ∧ Below W'.heap.size W' w') :
    CallsIn F n Try.prog 25 #[.agg #[.int .i64 N, .slice sa sn sc], .int .i64 a] w fun e W' => ∃ u, e = .returned u ∧ NearR w W' 3 u (nbs a es) := by
  have h1 : 1 ≤ n := by omega
  obtain ⟨i0, hi, hz0, hz1, hz2⟩ := info_parts info_int
  refine callsIn_of_wp_marks Try.func25 rfl hF1 ?_ hro
  simp only [Try.ntmps25, List.size_toArray, List.length_cons, List.length_nil, Nat.reduceAdd, Nat.reduceSub, Array.replicate_succ, Array.replicate_zero, List.push_toArray, List.append_toArray, List.nil_append, List.cons_append]
  obtain ⟨W3, hW3⟩ : ∃ W3, (w.alloc (.cells #[.int .i64 N, .slice sa sn sc] 38)).alloc (.cells #[.slice none 0 0] 42) = W3 := ⟨_, rfl⟩
  have hB3 : Below w.heap.size w W3 := by subst hW3; exact ((Below.refl _ w).alloc (Nat.le_refl _) _).alloc (by simp only [World.size_alloc]; omega) _
  have hs3 : W3.heap.size = w.heap.size + 2 := by subst hW3; simp
  have g3 : W3.heap[w.heap.size]? = some (.cells #[.int .i64 N, .slice sa sn sc] 38 (0, 0)) := by subst hW3; exact (Below.heap_alloc _ _ _ (by simp only [World.size_alloc]; omega)).trans (World.alloc_heap_new w _)
  have o3 : W3.heap[w.heap.size + 1]? = some (.cells #[.slice none 0 0] 42 (0, 0)) := by subst hW3; have := World.alloc_heap_new (w.alloc (.cells #[.int .i64 N, .slice sa sn sc] 38)) (.cells #[.slice none 0 0] 42); rwa [World.size_alloc] at this
  have f0 : W3.cell? ⟨w.heap.size, 0, none⟩ = some (.int .i64 N) := by simp [World.cell?, g3]
  have f1 : W3.cell? ⟨w.heap.size, 1, none⟩ = some (.slice sa sn sc) := by simp [World.cell?, g3]
  gi_wp2_with (first
    | (gi_at_call 34; refine (hR _ hB3).mono ?_; rintro e w1 ⟨rfl, hb1⟩; have hs1 : w.heap.size + 2 ≤ w1.heap.size := (by have := hb1.size; omega); have g1 := (hb1.block _ (by omega)).trans g3; have o1 := (hb1.block _ (by omega)).trans o3; have c0 : w1.cell? ⟨w.heap.size, 0, none⟩ = some (.int .i64 N) := (by simp [World.cell?, g1]); have c1 : w1.cell? ⟨w.heap.size, 1, none⟩ = some (.slice sa sn sc) := (by simp [World.cell?, g1]))
    | (gi_at_call 39; refine (near_in F (n - 1) hF3 hro N _ rfl a _).mono ?_; rintro e w' ⟨rfl, rfl⟩))
  obtain ⟨W5, hW5⟩ : ∃ W5, (w1.alloc (.cells #[.int .i64 N, .slice sa sn sc] 38)).alloc (.cells #[.int .i64 a] 3) = W5 := ⟨_, rfl⟩
  have hs5 : W5.heap.size = w1.heap.size + 2 := by subst hW5; simp
  have hB15 : Below w1.heap.size w1 W5 := by subst hW5; exact ((Below.refl _ w1).alloc (Nat.le_refl _) _).alloc (by simp only [World.size_alloc]; omega) _
  have hB5 : Below w.heap.size w W5 := hB3.trans ((hb1.mono (by omega)).trans (hB15.mono (by omega)))
  have g5 : W5.heap[w1.heap.size]? = some (.cells #[.int .i64 N, .slice sa sn sc] 38 (0, 0)) := by subst hW5; exact (Below.heap_alloc _ _ _ (by simp only [World.size_alloc]; omega)).trans (World.alloc_heap_new w1 _)
  have v5 : W5.heap[w1.heap.size + 1]? = some (.cells #[.int .i64 a] 3 (0, 0)) := by subst hW5; have := World.alloc_heap_new (w1.alloc (.cells #[.int .i64 N, .slice sa sn sc] 38)) (.cells #[.int .i64 a] 3); rwa [World.size_alloc] at this
  have o5 : Boxed W5 (w.heap.size + 1) 42 (.slice none 0 0) := (hB15.block _ (by omega)).trans o1
  have hpl : ∀ pre, pre <+: nbs a es → pre.length ≤ 8000 := by
    intro pre hp
    have : ∀ es : List Ed, (nbs a es).length ≤ 2 * es.length := by
      intro es
      induction es with
      | nil => simp [nbs]
      | cons x l ih => simp only [nbs]; split; · simp
                       · simp only [List.length_append, List.length_cons]; split <;> split <;> simp <;> omega
    have := this es
    have := hp.length_le
    omega
  rw [hW5]
  refine wpIn_rangeFunc_ownG hro h1 (gf := 45) (lb := #[.pointer (some ⟨w1.heap.size, 0, none⟩), .pointer (some ⟨w1.heap.size + 1, 0, none⟩)]) rfl hF4 (enters_of Try.func45 (by kernel_rfl) rfl)
    (near_stops F (n - 1) hF4 hro (by omega) w1.heap.size (w1.heap.size + 1) (w1.heap.size + 2) (w.heap.size + 1) (.slice sa sn sc) a es (by omega) W5 ⟨by omega, by omega⟩ ⟨by omega, by omega⟩ (by omega) (by simp [World.cell?, g5]) (by simp [World.cell?, v5]) (hC.below (Nat.le_refl _) hB5) ?edges)
    (fun h k => h.trans k) (KeepB.put (by omega)) (Below.refl _ _) (fun _ => rfl)
    (fun pre W => ((∃ u, Boxed W (w.heap.size + 1) 42 u ∧ W.ownsRow (w1.heap.size + 2) 3 1 u pre.length (pre.map (Value.int .i64)) ∧ (u = .slice none 0 0 ↔ pre = [])) ∧ W5.heap.size ≤ W.heap.size) ∧ Below w.heap.size w W)
    (fun _ _ _ => False)
    (OwnFrom.and (OwnFrom.and (Own.from (holdsRow_own (w1.heap.size + 2) (w.heap.size + 1) 42 3 1 (fun pre => pre.length) (fun pre => pre.map (Value.int .i64)) (fun pre u => u = .slice none 0 0 ↔ pre = [])) _) (fun s A B row hs hg hr => Nat.le_trans hs hg.size)) (ownFrom_below (Nat.le_refl _) (by omega)))
    (fun _ _ _ _ _ hs _ _ => hs)
    ⟨⟨⟨_, o5, World.ownsRow_nil _ _ _ _, by simp⟩, Nat.le_refl _⟩, hB5⟩
    (fun x => { tmps := #[.agg #[.int .i64 N, .slice sa sn sc], .int .i64 a, .pointer (some ⟨w.heap.size, 0, none⟩), undef, .slice none 0 0, .pointer (some ⟨w.heap.size + 1, 0, none⟩), .int .i64 x, .agg #[.int .i64 N, .slice sa sn sc], .bool true, .bool false, .agg #[.int .i64 N, .slice sa sn sc], .int .i64 a, .func (.func 45) #[] #[.pointer (some ⟨w1.heap.size, 0, none⟩), .pointer (some ⟨w1.heap.size + 1, 0, none⟩)], .int .i64 x, undef, undef, undef, undef, undef], defers := [] }) ?assign ?body ?done ?stop
  case edges =>
    intro hne b0 off cap e
    rcases hC with ⟨a', c', e', h0⟩ | ⟨b', off', cap', e', _, hb', _⟩
    · exact absurd h0 hne
    · rw [e'] at e; cases e
      constructor <;> omega
  case assign =>
    intro l x W K hK
    gi_wp2
    exact hK
  case body =>
    rintro l pre x W ⟨⟨⟨u, hv, hrow, hnil⟩, hsz⟩, hB⟩ hlt
    have hml : 9000 ≤ maxLen := by decide
    have hc := hv.cell
    gi_wp2_with (gi_at_builtin; refine wpListIn_append_own _ rfl _ _ 42 rfl (w1.heap.size + 2) 3 i0 (.int .i64 0) 1 8 under_ints hi hz0 hz1 hz2 rfl (by decide) _ _ _ rfl (hrow.alloc _) ⟨W.heap.size, 0, none⟩ 1 1 [.int .i64 x] rfl rfl (cell_one_new _ _ _) (by simp [Value.oneCell']) (by omega) (by omega) (by simp only [World.size_alloc]; omega) ?_; intro v' w2 hown' hgrow _; obtain ⟨g', cap', rfl⟩ := ownsRow_succ hown'; obtain ⟨hv1, hv2, hr2, hk2, hb2⟩ := hv.appended (by decide) (ownsRow_base hrow (by omega)) hB.size (by omega) (ownsRow_base hown' (by omega)) hgrow; have hc1 := hv1.cell; have hf1 := hv1.frozen)
    have hr3 := hown'.kept (grownBy_setCell' w2 (w.heap.size + 1) (.slice (some ⟨g', 0, none⟩) (pre.length + 1) cap')) (.inr (hv1.not_row (by decide) hown').symm)
    refine ⟨hk2.from _, KeepB.append (by omega) hv (by decide) hrow (by decide) hgrow, ⟨⟨_, hv2, by simpa using hr3, by simp⟩, ?_⟩, hB.trans hb2⟩
    have := hk2.size
    omega
  case done =>
    rintro D ys W hD rfl ⟨⟨⟨u, hv, hrow, hnil⟩, hsz⟩, hB⟩ hK
    have hc := hv.cell
    gi_wp2
    refine ⟨by simp, .inl ⟨_, _, rfl, run_takeDeferred hK, ?_⟩⟩
    exact ⟨_, results_tmp rfl _ _ _, u, rfl, ⟨ownsRow_putObj (ownsRow_base hrow (by omega)) _ hK rfl, hnil, hB.trans (belowK_b (w := w) (Nat.le_refl _) W D _ _ (by omega) hK rfl rfl)⟩⟩
  case stop =>
    rintro D c pre W _ _ h _
    exact h.elim
end Go.Proofs.Ytmekjhnlmoidpaa.N
namespace Go.Proofs.Ytmekjhnlmoidpaa.N
open Go.RowKit Go.Shelf Go.Ai Go.Ai.G
attribute [local go_sem] Oper.semAt_some
set_option linter.unusedVariables false
set_option maxRecDepth 100000 in
set_option maxHeartbeats 4000000 in
theorem nearx_not (F : Fence) (n : Nat) (hF1 : F.fn 25) (hF2 : F.fn 34) (hF3 : F.fn 39) (hF4 : F.fn 45) (hro : F.round = none) (hn : 3 ≤ n) (N : Int) (sa : Option Addr) (sn sc : Nat) (a : Int) (w : World)
    (hR : ∀ W', Below w.heap.size w W' → CallsIn F (n - 1) Try.prog 34 #[.agg #[.int .i64 N, .slice sa sn sc]] W' fun e w' => e = .returned (.bool false) ∧ Below W'.heap.size W' w') :
    CallsIn F n Try.prog 25 #[.agg #[.int .i64 N, .slice sa sn sc], .int .i64 a] w fun e W' => ∃ u, e = .returned u ∧ NearR w W' 3 u [] := by
  have h1 : 1 ≤ n := by omega
  refine callsIn_of_wp Try.func25 rfl hF1 ?_ hro
  simp only [Try.ntmps25, List.size_toArray, List.length_cons, List.length_nil, Nat.reduceAdd, Nat.reduceSub, Array.replicate_succ, Array.replicate_zero, List.push_toArray, List.append_toArray, List.nil_append, List.cons_append]
  obtain ⟨W3, hW3⟩ : ∃ W3, (w.alloc (.cells #[.int .i64 N, .slice sa sn sc] 38)).alloc (.cells #[.slice none 0 0] 42) = W3 := ⟨_, rfl⟩
  have hB3 : Below w.heap.size w W3 := by subst hW3; exact ((Below.refl _ w).alloc (Nat.le_refl _) _).alloc (by simp only [World.size_alloc]; omega) _
  have hs3 : W3.heap.size = w.heap.size + 2 := by subst hW3; simp
  have g3 : W3.heap[w.heap.size]? = some (.cells #[.int .i64 N, .slice sa sn sc] 38 (0, 0)) := by subst hW3; exact (Below.heap_alloc _ _ _ (by simp only [World.size_alloc]; omega)).trans (World.alloc_heap_new w _)
  have o3 : W3.heap[w.heap.size + 1]? = some (.cells #[.slice none 0 0] 42 (0, 0)) := by subst hW3; have := World.alloc_heap_new (w.alloc (.cells #[.int .i64 N, .slice sa sn sc] 38)) (.cells #[.slice none 0 0] 42); rwa [World.size_alloc] at this
  have f0 : W3.cell? ⟨w.heap.size, 0, none⟩ = some (.int .i64 N) := by simp [World.cell?, g3]
  have f1 : W3.cell? ⟨w.heap.size, 1, none⟩ = some (.slice sa sn sc) := by simp [World.cell?, g3]
  gi_wp2_with (gi_at_call 34; refine (hR _ hB3).mono ?_; rintro e w1 ⟨rfl, hb1⟩; have hs1 : w.heap.size + 2 ≤ w1.heap.size := (by have := hb1.size; omega); have g1 := (hb1.block _ (by omega)).trans g3; have o1 := (hb1.block _ (by omega)).trans o3; have c0 : w1.cell? ⟨w.heap.size, 0, none⟩ = some (.int .i64 N) := (by simp [World.cell?, g1]); have c1 : w1.cell? ⟨w.heap.size, 1, none⟩ = some (.slice sa sn sc) := (by simp [World.cell?, g1]))

  exact bodyPost_ret (results_tmp rfl _ _ _) rfl ⟨_, rfl, ⟨World.ownsRow_nil _ _ _ _, by simp, hB3.trans (hb1.mono (by omega))⟩⟩
end Go.Proofs.Ytmekjhnlmoidpaa.N
