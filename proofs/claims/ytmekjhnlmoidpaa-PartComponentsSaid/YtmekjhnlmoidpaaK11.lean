/- A part of what the law leans on: the abstract machine, the contracts, the rows. -/
import Derived.WalkKit
import Derived.Maps.RangeWalk
import Derived.Test.YtmekjhnlmoidpaaChecked
import Derived.Test.YtmekjhnlmoidpaaK10
import Derived.Test.YtmekjhnlmoidpaaK6
import Derived.Test.YtmekjhnlmoidpaaK7
namespace Go.Proofs.Ytmekjhnlmoidpaa.N
open Go.RowKit Go.Maps Go.Ai Go.ChangeShapes
set_option linter.unusedVariables false
theorem law3 : Keyed Try.prog 3 := int_keyed Try.underlying3
theorem info_one : (Try.prog.info? 3).map (fun i => (i.zero, i.size, i.bytes)) = some (some (.int .i64 0), 1, 8) := by kernel_rfl
theorem info_ints : (Try.prog.info? 42).map (fun i => (i.zero, i.size, i.bytes)) = some (some (.slice none 0 0), 1, 24) := by kernel_rfl
theorem zero_ints (w : World) : (zeroValue 42).run Try.prog w = .ok (.slice none 0 0) w := by kernel_rfl
def rowd (zs : List Int) : DataW Unit := if zs = [] then .nil else .slice (lits .i64 zs) []
/-- What the map reads as behind k rounds. -/
def Gd (r : Nat → Nat) (k : Nat) (D : DataW Unit) : Prop := IsMap D ∧ (∀ x : Int, D.atKey (.int .i64 x) .nil = rowd (gcl r k x)) ∧ ∀ kl, has D kl = true ↔ ∃ x : Int, kl = .int .i64 x ∧ gcl r k x ≠ []
theorem gd_start (r : Nat → Nat) : Gd r 0 (.map []) := by
  refine ⟨isMap_empty, fun x => ?_, fun kl => ?_⟩
  · simp [gcl, rowd]; rfl
  · simp [gcl, has]
theorem rowd_inj {q : IntKind} {v : Value} {zs ys : List Int} {w : World} {base : Nat} {e : TypeId} (h : rowd ys = rowDatum .i64 v zs) (ho : w.ownsInts base e .i64 v zs) : zs = ys := by
  unfold rowd at h
  rcases ho.datum (H := Unit) with ⟨h1, rfl⟩ | h1
  · rw [h1] at h
    split at h
    · rename_i e; exact e.symm
    · cases h
  · rw [h1] at h
    split at h
    · cases h
    · simp only [DataW.slice.injEq, and_true, lits] at h
      have := (List.map_inj_right (fun a b hab => by cases hab; rfl)).1 h
      exact this.symm
theorem gd_step {r : Nat → Nat} {k : Nat} {D : DataW Unit} (h : Gd r k D) {v v' : Value} {zs : List Int} {w w1 : World} {base : Nat} {e : TypeId} (hat : D.atKey (.int .i64 (r k)) .nil = rowDatum .i64 v zs) (ho : w.ownsInts base e .i64 v zs)
    (ho' : w1.ownsInts base e .i64 v' (zs ++ [(k : Int)])) : Gd r (k + 1) (D.put (.int .i64 (r k)) (rowDatum .i64 v' (zs ++ [(k : Int)]))) := by
  obtain ⟨h1, h2, h3⟩ := h
  have hz : zs = gcl r k (r k) := rowd_inj (q := .i64) ((h2 (r k)).symm.trans hat) ho
  have hd : rowDatum (H := Unit) .i64 v' (zs ++ [(k : Int)]) = .slice (lits .i64 (zs ++ [(k : Int)])) [] := ho'.datum_pos (by simp)
  rw [hd]
  refine ⟨h1.put _ _, fun x => ?_, fun kl => ?_⟩
  · rw [gcl_snoc]
    by_cases hx : (r k : Int) = x
    · subst hx
      rw [if_pos rfl, atKey_put_same (k := .int .i64 (r k)) h1 trivial, ← hz]
      simp [rowd]
    · rw [if_neg hx, List.append_nil, atKey_put_other (by simp; exact fun h => hx h.symm), h2]
  · by_cases hk : kl = .int .i64 (r k)
    · subst hk
      rw [has_put_same (k := .int .i64 (r k)) h1 trivial]
      simp only [true_iff]
      exact ⟨_, rfl, by rw [gcl_snoc, if_pos rfl]; simp⟩
    · rw [has_put_other hk, h3]
      constructor
      · rintro ⟨x, rfl, hx⟩
        exact ⟨x, rfl, by rw [gcl_snoc]; simp [hx]⟩
      · rintro ⟨x, rfl, hx⟩
        refine ⟨x, rfl, ?_⟩
        rw [gcl_snoc, if_neg (fun e => hk (by rw [e])), List.append_nil] at hx
        exact hx
end Go.Proofs.Ytmekjhnlmoidpaa.N
namespace Go.Proofs.Ytmekjhnlmoidpaa.N
open Go.RowKit Go.Ai
set_option linter.unusedVariables false
/-- The numbers in their block: as w had it, but for them. -/
structure UpAt (w wr : World) (ub uo : Nat) (up : List Int) : Prop where
  cell : ∀ (i : Nat) z, up[i]? = some z → wr.cell? ⟨ub, uo + i, none⟩ = some (.int .i64 z)
  ex : ∀ o u, w.cell? ⟨ub, o, none⟩ = some u → ∃ v, wr.cell? ⟨ub, o, none⟩ = some v
  fz : ∀ o, wr.frozen? ⟨ub, o, none⟩ = w.frozen? ⟨ub, o, none⟩
  grown : w.grownBy wr (some ub)
theorem UpAt.put {w wr : World} {ub uo a : Nat} {up : List Int} {u : Value} (h : UpAt w wr ub uo up) (z : Int) (hc : wr.cell? ⟨ub, uo + a, none⟩ = some u) (ha : a < up.length) : UpAt w (wr.setCell ⟨ub, uo + a, none⟩ (.int .i64 z)).drew ub uo (up.set a z) := by
  refine ⟨fun i y hi => ?_, fun o v hv => ?_, fun o => ?_, ?_⟩
  · show (wr.setCell ⟨ub, uo + a, none⟩ (.int .i64 z)).cell? ⟨ub, uo + i, none⟩ = _
    rw [List.getElem?_set] at hi
    by_cases e : a = i
    · subst e
      rw [if_pos rfl, if_pos ha] at hi
      cases hi
      exact World.cell?_setCell_same' _ _ _ (by rw [hc]; rfl)
    · rw [if_neg e] at hi
      rw [World.cell?_setCell_other _ _ _ _ (fun x => e (by have := congrArg Addr.off x; simp only at this; omega))]
      exact h.cell i y hi
  · obtain ⟨v', hv'⟩ := h.ex o v hv
    show ∃ v, (wr.setCell ⟨ub, uo + a, none⟩ (.int .i64 z)).cell? ⟨ub, o, none⟩ = some v
    by_cases e : o = uo + a
    · subst e; exact ⟨_, World.cell?_setCell_same' _ _ _ (by rw [hc]; rfl)⟩
    · rw [World.cell?_setCell_other _ _ _ _ (fun x => e (by have := congrArg Addr.off x; simp only at this; omega))]; exact ⟨v', hv'⟩
  · show (wr.setCell ⟨ub, uo + a, none⟩ (.int .i64 z)).frozen? ⟨ub, o, none⟩ = _
    rw [World.frozen?_setCell]; exact h.fz o
  · have hg := h.grown
    refine ⟨hg.os, hg.tape, hg.output, ?_, fun k hk hne => ?_⟩
    · show w.heap.size ≤ (wr.setCell ⟨ub, uo + a, none⟩ (.int .i64 z)).heap.size
      simp [World.setCell]; exact hg.size
    · show (wr.setCell ⟨ub, uo + a, none⟩ (.int .i64 z)).heap[k]? = _
      rw [Below.heap_setCell _ _ _ k (show k ≠ (⟨ub, uo + a, none⟩ : Addr).block from fun e => hne (by rw [e]))]
      exact hg.block k hk hne
set_option maxRecDepth 100000 in
set_option maxHeartbeats 4000000 in
theorem top_walk (N : Nat) (r d : Nat → Nat) (up : List Int) (a : Nat) (w : World) (pb po ub uo c : Nat) (hne : pb ≠ ub) (hp : w.cell? ⟨pb, po, none⟩ = some (.slice (some ⟨ub, uo, none⟩) N c)) (hN : N ≤ 1000) (hD : Dec N r up d) (ha : a < N) (hda : d a ≤ N)
    (hU : UpAt w w ub uo up) (hfz : ∀ i, i < N → w.frozen? ⟨ub, uo + i, none⟩ = false) :
    Calls Try.prog 29 #[.pointer (some ⟨pb, po, none⟩), .int .i64 a] w fun e W' => e = .returned (.int .i64 (r a)) ∧ UpAt w W' ub uo (topF N up a).2 := by
  go_enter Try.func29, Try.ntmps29
  go_wp2
  go_loopw [1] (fun av wr => ∃ (a' f : Nat) (up' : List Int), av = .int .i64 a' ∧ a' < N ∧ Dec N r up' d ∧ d a' ≤ f ∧ r a' = r a ∧ topF f up' a' = topF N up a ∧ UpAt w wr ub uo up')
    (fun av _ => d (intOf av).toNat)
  case atStart => exact ⟨a, N, up, rfl, ha, hD, hda, rfl, rfl, hU⟩
  case round =>
    obtain ⟨a', f, up', rfl, ha', hD', hf, hra, htf, hU'⟩ := hrel
    have hpw : wr.cell? ⟨pb, po, none⟩ = some (.slice (some ⟨ub, uo, none⟩) N c) := by
      rw [← hp]; simp only [World.cell?]; rw [hU'.grown.block pb (by
        refine Decidable.byContradiction fun h => ?_
        simp only [World.cell?] at hp
        rw [Array.getElem?_eq_none (by omega)] at hp; simp at hp) (fun e => by cases e; exact hne rfl)]
    have hc1 : wr.cell? ⟨ub, uo + a', none⟩ = some (.int .i64 (upn up' a' : Nat)) := hU'.cell _ _ (hD'.nn a' ha')
    by_cases e : upn up' a' = a'
    · have hb : (((upn up' a' : Nat) : Int) != (a' : Int)) = false := by rw [e]; simp
      go_wp2
      go_ret
      have er : r a = a' := by rw [← hra]; exact (hD'.fix a' ha').1 e
      exact ⟨by rw [er]; rfl, by rw [← htf, topF_stop e]; exact hU'⟩
    · have hb : (((upn up' a' : Nat) : Int) != (a' : Int)) = true := by
        have : ((upn up' a' : Nat) : Int) ≠ (a' : Int) := by omega
        simpa using this
      obtain ⟨h1, h2, h3, h4⟩ := hD'.step ha' e
      have hb1 := hD'.lt a' ha'
      have hc2 : wr.cell? ⟨ub, uo + upn up' a', none⟩ = some (.int .i64 (upn up' (upn up' a') : Nat)) := hU'.cell _ _ (hD'.nn _ hb1)
      have hfr : wr.frozen? ⟨ub, uo + a', none⟩ = false := (hU'.fz _).trans (hfz a' ha')
      go_wp2
      go_region
      have hc3 : (wr.setCell ⟨ub, uo + a', none⟩ (.int .i64 (upn up' (upn up' a') : Nat))).cell? ⟨ub, uo + a', none⟩ = some (.int .i64 (upn up' (upn up' a') : Nat)) := World.cell?_setCell_same' _ _ _ (by rw [hc1]; rfl)
      have hp3 : (wr.setCell ⟨ub, uo + a', none⟩ (.int .i64 (upn up' (upn up' a') : Nat))).cell? ⟨pb, po, none⟩ = some (.slice (some ⟨ub, uo, none⟩) N c) := by
        rw [← hpw]; simp only [World.cell?, Below.heap_setCell _ _ _ pb (show pb ≠ (⟨ub, uo + a', none⟩ : Addr).block from hne)]
      go_wp2
      go_roundw
      case rel =>
        refine ⟨upn up' (upn up' a'), f - 1, _, rfl, h2, h1, by omega, h4.trans hra, ?_, ?_⟩
        · rw [← htf]
          obtain ⟨f', rfl⟩ : ∃ f', f = f' + 1 := ⟨f - 1, by omega⟩
          rw [topF, if_neg e]; rfl
        · exact hU'.put _ hc1 (by rw [hD'.len]; exact ha')
      case measure => simp [intOf]; omega
end Go.Proofs.Ytmekjhnlmoidpaa.N
