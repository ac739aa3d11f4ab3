/- A part of what the law leans on: the abstract machine, the contracts, the rows. -/
import Derived.Test.YtmekjhnlmoidpaaK16
import Derived.Test.YtmekjhnlmoidpaaK13
namespace Go.Proofs.Ytmekjhnlmoidpaa.N
open Go.RowKit Go.Shelf Go.Ai
attribute [local go_sem] Oper.semAt_some
set_option linter.unusedVariables false
theorem KeepB.put {n1 B : Nat} {w : World} (hn : n1 ≤ w.heap.size) (W : World) (l : Nat) (o o' : Obj) (hl : w.heap.size ≤ l) (h : W.heap[l]? = some o) (hc : o.isCells = false) (_ : o.isWalk = false) : KeepB n1 B W (W.putObj l o') := by
  have hg := grownBy_putObj' W l o'
  refine ⟨hg.size, fun k hk _ => hg.block k (by have := (Array.getElem?_eq_some_iff.1 h).1; omega) (fun e => by cases e; omega), fun k c fr hk => ?_⟩
  refine (hg.block k (Array.getElem?_eq_some_iff.1 hk).1 (fun e => ?_)).trans hk
  cases e
  rw [h] at hk; cases hk; cases hc
set_option maxRecDepth 100000 in
set_option maxHeartbeats 1000000 in
theorem near1_nil_in (F : Fence) (n : Nat) (h43 : F.fn 45) (hro : F.round = none) (l Bg Bv : Nat) (J : List Int → World → Prop) (W : World) (sa : Option Addr) (sc : Nat) (hG : W.cell? ⟨Bg, 1, none⟩ = some (.slice sa 0 sc)) (h0 : J [] W) :
    CallsIn F n Try.prog 45 #[.func (.yield l) #[] #[], .pointer (some ⟨Bg, 0, none⟩), .pointer (some ⟨Bv, 0, none⟩)] W fun e W' => (∃ v, e = .returned v) ∧ J [] W' := by
  refine callsIn_of_wp Try.func45 rfl h43 ?_ hro
  simp only [Try.ntmps45, List.size_toArray, List.length_cons, List.length_nil, Nat.reduceAdd, Nat.reduceSub, Array.replicate_succ, Array.replicate_zero, List.push_toArray, List.append_toArray, List.nil_append, List.cons_append]
  gi_wp2
  gi_loopw [9] (fun i wr => i = .int .i64 0 ∧ J [] wr) (fun _ _ => 0)
  case atStart => exact ⟨rfl, h0⟩
  case round =>
    obtain ⟨rfl, hJs⟩ := hrel
    gi_wp2
    go_end0
    exact ⟨⟨_, rfl⟩, hJs⟩
set_option maxHeartbeats 1000000 in
theorem near_in (F : Fence) (n : Nat) (h35 : F.fn 39) (hro : F.round = none) (N : Int) (s : Value) (hs : s.oneCell' = true) (v : Int) (w : World) :
    CallsIn F n Try.prog 39 #[.agg #[.int .i64 N, s], .int .i64 v] w fun e w' => e = .returned (.func (.func 45) #[] #[.pointer (some ⟨w.heap.size, 0, none⟩), .pointer (some ⟨w.heap.size + 1, 0, none⟩)]) ∧ w' = (w.alloc (.cells #[.int .i64 N, s] 38)).alloc (.cells #[.int .i64 v] 3) := by
  refine callsIn_of_wp Try.func39 rfl h35 ?_ hro
  simp only [Try.ntmps39, List.size_toArray, List.length_cons, List.length_nil, Nat.reduceAdd, Nat.reduceSub, Array.replicate_succ, Array.replicate_zero, List.push_toArray, List.append_toArray, List.nil_append, List.cons_append]
  gi_wp2
  go_ret
  exact ⟨rfl, rfl⟩
/-- THE NEIGHBOURS COME ONE BY ONE. -/
theorem near_stops (F : Fence) (n : Nat) (h43 : F.fn 45) (hro : F.round = none) (hn : 1 ≤ n) (Bg Bv n1 B : Nat) (s : Value) (v : Int) (es : List Ed) (hreach : es.length * 16 ≤ 140737488351232) (w : World) (hBg : Bg < n1 ∧ Bg ≠ B) (hBv : Bv < n1 ∧ Bv ≠ B) (hn1 : n1 ≤ w.heap.size)
    (hg : w.cell? ⟨Bg, 1, none⟩ = some s) (hv : w.cell? ⟨Bv, 0, none⟩ = some (.int .i64 v)) (hC : CE w s es) (hB : es ≠ [] → ∀ b off cap, s = .slice (some ⟨b, off, none⟩) es.length cap → b < n1 ∧ b ≠ B) :
    SeqStopsK F n Try.prog 45 #[.pointer (some ⟨Bg, 0, none⟩), .pointer (some ⟨Bv, 0, none⟩)] (fun x : Int => #[Value.int .i64 x]) (KeepB n1 B) (fun ys => ys = nbs v es) (fun pre => pre <+: nbs v es) (2 * es.length) w := fun l J Jx W hW hJ _ hY h0 => by
  have hg' := (hW.cell (p := ⟨Bg, 1, none⟩) (by show Bg < _; omega)).trans hg
  have hv' := (hW.cell (p := ⟨Bv, 0, none⟩) (by show Bv < _; omega)).trans hv
  have hal : ∀ pre W1 o, J pre W1 → J pre (W1.alloc o) := fun pre W1 o h => hJ pre W1 _ none h (World.grownBy_alloc W1 o none) (fun r e => by cases e)
  rcases hC.below (Nat.le_refl _) hW with ⟨sa, sc, rfl, rfl⟩ | ⟨b, off, cap, rfl, h1, h2, h3⟩
  · exact (near1_nil_in F n h43 hro l Bg Bv J W sa sc hg' h0).mono fun e W' ⟨he, hj⟩ => ⟨he, .inl ⟨_, rfl, hj⟩⟩
  by_cases h0' : es = []
  · subst h0'; exact (near1_nil_in F n h43 hro l Bg Bv J W _ _ hg' h0).mono fun e W' ⟨he, hj⟩ => ⟨he, .inl ⟨_, rfl, hj⟩⟩
  · exact near1_in F n h43 hro hn l Bg Bv n1 B b off es.length cap v es rfl hreach (hB h0' b off cap rfl) hBg hBv J Jx hY W (Nat.le_trans hn1 hW.size) hal hg' hv' h3 h0
end Go.Proofs.Ytmekjhnlmoidpaa.N
