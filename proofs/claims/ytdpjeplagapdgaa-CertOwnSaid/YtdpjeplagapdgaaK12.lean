/- A part of what the law leans on: the abstract machine, the contracts, the rows. -/
import Derived.Test.YtdpjeplagapdgaaK7
import Derived.Test.YtdpjeplagapdgaaK9
import Derived.WalkKit
import Derived.Defers
import Derived.Recover
import Derived.MapKept
import Derived.Test.YtdpjeplagapdgaaK11
namespace Go.Proofs.Ytdpjeplagapdgaa.M
open Go.Ai Go.Ai.G Go.RowKit
set_option maxRecDepth 100000
set_option linter.unusedVariables false
set_option linter.unusedSimpArgs false
theorem heap_new (w : World) (o : Obj) : (w.alloc o).heap[w.heap.size]? = some o := (Go.MapKept.heap_alloc w o).1
def A0 : AProg := ⟨fns, fun _ => none⟩
theorem cs0 : CS A0 φs := ⟨⟨rfl, rfl⟩, ⟨rfl, rfl⟩, ⟨rfl, rfl⟩, ⟨rfl, rfl⟩, ⟨rfl, rfl⟩⟩
/-- The deferred closure of a frame that panics. -/
theorem read_catch (p q : Addr) (x : Value) (y : Int) (u : TypeId) (pv : Value) (older : List PanicEntry) (w : World) (hp : w.cell? p = some x) (hzp : w.frozen? p = false) (hx : x.oneCell' = true) (hq : w.cell? q = some (.int .i64 y)) (hzq : w.frozen? q = false) (hne : p ≠ q) :
    CallsD Try.prog 25 #[.pointer (some p), .pointer (some q)] (.panicking ({ v := .iface u pv, recovered := false } :: older)) w fun e u' w' =>
      e = .returned (.tuple #[]) ∧ u' = .panicking ({ v := .iface u pv, recovered := true } :: older) ∧ w' = (w.setCell p .nilIface).setCell q (.int .i64 3) := by
  refine callsD_of_wpS Try.func25 rfl fun c₀ cs hu => ?_
  apply wpS_seq
  apply wpS_region
  simp [wpOpsS, go_sem, recoverD, hu, Try.ntmps25, Exit.thenS]
  have hq2 : (w.setCell p .nilIface).cell? q = some (.int .i64 y) := by rw [World.cell?_setCell_other _ _ _ _ hne]; exact hq
  have hzq2 : (w.setCell p .nilIface).frozen? q = false := by rw [World.frozen?_setCell]; exact hzq
  apply wpS_seq
  apply wpS_region
  simp [wpOpsS, go_sem, Exit.thenS, Array.replicate]
  refine wpS_cond (t := true) (by simp [Act.eval, Array.replicate]) ?_
  simp only [if_true]
  apply wpS_region
  simp [wpOpsS, go_sem, hp, hzp, hq2, hzq2, bodyPostS, results, Try.results25]
theorem read_idle (p q : Addr) (w : World) :
    CallsD Try.prog 25 #[.pointer (some p), .pointer (some q)] .returning w fun e u' w' => e = .returned (.tuple #[]) ∧ u' = .returning ∧ w' = w := by
  refine callsD_of_wpS Try.func25 rfl fun c₀ cs hu => ?_
  apply wpS_seq
  apply wpS_region
  simp [wpOpsS, go_sem, recoverD, hu, Try.ntmps25, Exit.thenS]
  apply wpS_seq
  apply wpS_region
  simp [wpOpsS, go_sem, Exit.thenS, Array.replicate]
  refine wpS_cond (t := false) (by simp [Act.eval, Array.replicate]) ?_
  simp only [Bool.false_eq_true, if_false]
  refine wpS_of_wp (wp_skip ?_)
  cases c₀
  simp_all [bodyPostS, results, Try.results25]
set_option maxHeartbeats 4000000 in
theorem read_ext : ∀ args H out, readExt φs args H = some out → Enters Try.prog 11 ∧ H.length ≤ out.heap.length ∧ ∀ B μ w us, HR B μ H w → VRs μ args us → Calls Try.prog 11 us.toArray w (OutR B μ H w out) := by
  intro args H out h
  unfold readExt at h
  split at h
  · rename_i v
    split at h
    · rename_i l hl
      split at h
      · rename_i hn
        cases h
        refine ⟨Go.Ai.enters_of Try.func11 (by kernel_rfl) (by kernel_rfl), Nat.zero_le _, fun B μ w us hH hv => ?_⟩
        have hIs := exI_is hl
        obtain ⟨u, t1, rfl, hu, hv⟩ := hv.cases_cons
        have := hv.cases_nil; subst this
        obtain ⟨sa, sn, sc, rfl⟩ : ∃ a n c, u = .slice a n c := by
          obtain ⟨_, _, ⟨rfl, _⟩ | rfl⟩ := hIs
          · cases hu; exact ⟨_, _, _, rfl⟩
          · obtain ⟨k, off, p, c, ys, rfl, _⟩ := hu.vs_inv
            exact ⟨_, _, _, rfl⟩
        have hmf : ∀ (fn : Fn) (first cap : Array Value) (w : World), (Instr.makeFunc fn first cap).run Try.prog w = .ok (.func fn first cap) w := fun _ _ _ _ => rfl
        have hcert := fun {W : World} (hb : Below w.heap.size w W) {bx : Nat} => cert_calls (A := A0) (φ := φs) rfl chkAll ⟨rfl, rfl⟩ cs0 hH hb (bx := bx) (v := v) (u := .slice sa sn sc) (l := l) hIs hn
        go_enter_defers Try.func11, Try.ntmps11
        obtain ⟨W3, hW3⟩ : ∃ W3, ((w.alloc (.cells #[.nilIface] 25)).alloc (.cells #[.int .i64 0] 26)).alloc (.cells #[.slice sa sn sc] 87) = W3 := ⟨_, rfl⟩
        have hB3 : Below w.heap.size w W3 := by subst hW3; exact ((((Below.refl _ w).alloc (Nat.le_refl _) _).alloc (by simp only [World.size_alloc]; omega) _).alloc (by simp only [World.size_alloc]; omega) _)
        have hs3 : W3.heap.size = w.heap.size + 3 := by subst hW3; simp
        have g0 : W3.heap[w.heap.size]? = some (.cells #[.nilIface] 25 (0, 0)) := by
          subst hW3
          rw [Below.heap_alloc _ _ _ (by simp only [World.size_alloc]; omega), Below.heap_alloc _ _ _ (by simp only [World.size_alloc]; omega)]
          exact heap_new _ _
        have g1 : W3.heap[w.heap.size + 1]? = some (.cells #[.int .i64 0] 26 (0, 0)) := by
          subst hW3
          rw [Below.heap_alloc _ _ _ (by simp only [World.size_alloc]; omega)]
          have := heap_new (w.alloc (.cells #[.nilIface] 25)) (.cells #[.int .i64 0] 26)
          simpa only [World.size_alloc] using this
        have g2 : W3.heap[w.heap.size + 1 + 1]? = some (.cells #[.slice sa sn sc] 87 (0, 0)) := by
          subst hW3
          have := heap_new ((w.alloc (.cells #[.nilIface] 25)).alloc (.cells #[.int .i64 0] 26)) (.cells #[.slice sa sn sc] 87)
          simpa only [World.size_alloc] using this
        rcases hcp : certP l with _ | ⟨oc, t⟩
        · have hC := fun {W : World} (hb : Below w.heap.size w W) {bx : Nat} h0 h1 hv hc hz => (hcert hb (bx := bx) h0 h1 hv hc hz).mono (R' := fun e W' => (∃ ty pv, e = .panicked [{ v := .iface ty pv, recovered := false }]) ∧ W.grownBy W' (some bx)) fun e W' hp => by
            obtain ⟨hp, hg⟩ := hp
            refine ⟨?_, hg⟩
            rcases hp with ⟨oc, t, x, ν, c1, _⟩ | ⟨_, h⟩
            · rw [hcp] at c1; cases c1
            · exact h
          go_wp2_with (first
            | (go_at_call 26; refine (hC hB3 (by omega) (by omega) hu (by simp [World.cell?, g2]) (by simp [World.frozen?, g2])).mono ?_; rintro e W4 ⟨⟨ty, pv, rfl⟩, hgr⟩; have d0 : W4.heap[w.heap.size]? = some (.cells #[.nilIface] 25 (0, 0)) := (hgr.block _ (by omega) (by intro e; have := Option.some.inj e; omega)).trans g0; have d1 : W4.heap[w.heap.size + 1]? = some (.cells #[.int .i64 0] 26 (0, 0)) := (hgr.block _ (by omega) (by intro e; have := Option.some.inj e; omega)).trans g1; have e0 : W4.cell? ⟨w.heap.size, 0, none⟩ = some .nilIface := (by simp [World.cell?, d0]); have z0 : W4.frozen? ⟨w.heap.size, 0, none⟩ = false := (by simp [World.frozen?, d0]); have e1 : W4.cell? ⟨w.heap.size + 1, 0, none⟩ = some (.int .i64 0) := (by simp [World.cell?, d1]); have z1 : W4.frozen? ⟨w.heap.size + 1, 0, none⟩ = false := (by simp [World.frozen?, d1]))
            | go_in)
          refine leaves_cons (f := 25) (args := #[.pointer (some ⟨w.heap.size, 0, none⟩), .pointer (some ⟨w.heap.size + 1, 0, none⟩)]) (by simp) (by simp [go_sem]) ?_
          refine (read_catch ⟨w.heap.size, 0, none⟩ ⟨w.heap.size + 1, 0, none⟩ .nilIface 0 ty pv [] _ e0 z0 rfl e1 z1 (by simp)).mono ?_
          rintro e u' w'' ⟨rfl, rfl, rfl⟩
          simp [Leaves, settle, results, Try.results11, go_sem, e0, e1, z0, z1]
          have hb4 : Below w.heap.size w W4 := hB3.grown hgr (by omega) (fun k hk => by cases hk; omega)
          have hrr : readR l = none := by simp [readR, hcp]
          have hre : readE l = 3 := by simp [readE, hrr]
          rw [hrr, hre]
          refine read_out (n := w.heap.size + 2) hH (hr_below hH hb4) (Mu.le_refl μ) (fun k o u h => .inl h) (by omega) (by simp [World.setCell]) hb4 ((hb4.setCell (p := ⟨w.heap.size, 0, none⟩) (by simp only; omega) _).setCell (p := ⟨w.heap.size + 1, 0, none⟩) (by simp only; omega) _) (fun k hk => ?_) ?_
          · rw [Below.heap_setCell _ _ _ _ (by simp only; omega), Below.heap_setCell _ _ _ _ (by simp only; omega)]
          · exact VR.tup' (VRs.cons .nili (VRs.cons (.int _ _) (VRs.nil _)))
        · have hC := fun {W : World} (hb : Below w.heap.size w W) {bx : Nat} h0 h1 hv hc hz => (hcert hb (bx := bx) h0 h1 hv hc hz).mono (R' := fun e W' => (∃ x ν, e = .returned x ∧ VR ν (cvO φs oc) x ∧ HR B ν [] W' ∧ μ.le ν ∧ (∀ k o u, ν.im k o = some u → μ.im k o = some u ∨ W.heap.size ≤ k ∨ k = bx) ∧ ∃ s c, W'.cell? ⟨bx, 0, none⟩ = some (.slice s t.length c)) ∧ W.grownBy W' (some bx)) fun e W' hp => by
            obtain ⟨hp, hg⟩ := hp
            refine ⟨?_, hg⟩
            rcases hp with ⟨oc', t', x, ν, c1, h⟩ | ⟨c1, _⟩
            · rw [hcp] at c1; cases c1; exact ⟨x, ν, h⟩
            · rw [hcp] at c1; cases c1
          cases oc with
          | none =>
            go_wp2_with (first
              | (go_at_call 26; refine (hC hB3 (by omega) (by omega) hu (by simp [World.cell?, g2]) (by simp [World.frozen?, g2])).mono ?_; rintro e W4 ⟨⟨x, ν, rfl, c2, c3, c4, c5, s, cc, c6⟩, hgr⟩; obtain rfl : x = .nilIface := (by cases c2; rfl); have d0 : W4.heap[w.heap.size]? = some (.cells #[.nilIface] 25 (0, 0)) := (hgr.block _ (by omega) (by intro e; have := Option.some.inj e; omega)).trans g0; have d1 : W4.heap[w.heap.size + 1]? = some (.cells #[.int .i64 0] 26 (0, 0)) := (hgr.block _ (by omega) (by intro e; have := Option.some.inj e; omega)).trans g1; have e0 : W4.cell? ⟨w.heap.size, 0, none⟩ = some .nilIface := (by simp [World.cell?, d0]); have z0 : W4.frozen? ⟨w.heap.size, 0, none⟩ = false := (by simp [World.frozen?, d0]); have e1 : W4.cell? ⟨w.heap.size + 1, 0, none⟩ = some (.int .i64 0) := (by simp [World.cell?, d1]); have z1 : W4.frozen? ⟨w.heap.size + 1, 0, none⟩ = false := (by simp [World.frozen?, d1]))
              | go_in)
            refine leaves_cons (f := 25) (args := #[.pointer (some ⟨w.heap.size, 0, none⟩), .pointer (some ⟨w.heap.size + 1, 0, none⟩)]) (by simp) (by simp [go_sem]) ?_
            refine (read_idle ⟨w.heap.size, 0, none⟩ ⟨w.heap.size + 1, 0, none⟩ _).mono ?_
            rintro e u' w'' ⟨rfl, rfl, rfl⟩
            simp [Leaves, settle, results, Try.results11, go_sem, e0, e1, z0, z1]
            have hb4 : Below w.heap.size w W4 := hB3.grown hgr (by omega) (fun k hk => by cases hk; omega)
            have hrr : readR l = none := by simp [readR, hcp]
            have hre : readE l = 3 := by simp [readE, hrr]
            rw [hrr, hre]
            refine read_out (n := w.heap.size + 2) hH (hr_below hH hb4) (Mu.le_refl μ) (fun k o u h => .inl h) (by omega) (by simp [World.setCell]) hb4 (((hb4.setCell (p := ⟨w.heap.size, 0, none⟩) (by simp only; omega) _).setCell (p := ⟨w.heap.size, 0, none⟩) (by simp only; omega) _).setCell (p := ⟨w.heap.size + 1, 0, none⟩) (by simp only; omega) _) (fun k hk => ?_) ?_
            · rw [Below.heap_setCell _ _ _ _ (by simp only; omega), Below.heap_setCell _ _ _ _ (by simp only; omega), Below.heap_setCell _ _ _ _ (by simp only; omega)]
            · exact VR.tup' (VRs.cons .nili (VRs.cons (.int _ _) (VRs.nil _)))
          | some cv =>
            by_cases ht : t = []
            · subst ht
              go_wp2_with (first
                | (go_at_call 26; refine (hC hB3 (by omega) (by omega) hu (by simp [World.cell?, g2]) (by simp [World.frozen?, g2])).mono ?_; rintro e W4 ⟨⟨x, ν, rfl, c2, c3, c4, c5, s, cc, c6⟩, hgr⟩; obtain ⟨ty, xv, rfl⟩ := cvV_iface c2; have d0 : W4.heap[w.heap.size]? = some (.cells #[.nilIface] 25 (0, 0)) := (hgr.block _ (by omega) (by intro e; have := Option.some.inj e; omega)).trans g0; have d1 : W4.heap[w.heap.size + 1]? = some (.cells #[.int .i64 0] 26 (0, 0)) := (hgr.block _ (by omega) (by intro e; have := Option.some.inj e; omega)).trans g1; have e0 : W4.cell? ⟨w.heap.size, 0, none⟩ = some .nilIface := (by simp [World.cell?, d0]); have z0 : W4.frozen? ⟨w.heap.size, 0, none⟩ = false := (by simp [World.frozen?, d0]); have e1 : W4.cell? ⟨w.heap.size + 1, 0, none⟩ = some (.int .i64 0) := (by simp [World.cell?, d1]); have z1 : W4.frozen? ⟨w.heap.size + 1, 0, none⟩ = false := (by simp [World.frozen?, d1]))
                | go_in)
              refine leaves_cons (f := 25) (args := #[.pointer (some ⟨w.heap.size, 0, none⟩), .pointer (some ⟨w.heap.size + 1, 0, none⟩)]) (by simp) (by simp [go_sem]) ?_
              refine (read_idle ⟨w.heap.size, 0, none⟩ ⟨w.heap.size + 1, 0, none⟩ _).mono ?_
              rintro e u' w'' ⟨rfl, rfl, rfl⟩
              simp [Leaves, settle, results, Try.results11, go_sem, e0, e1, z0, z1]
              have hb4 : Below w.heap.size w W4 := hB3.grown hgr (by omega) (fun k hk => by cases hk; omega)
              have hrr : readR l = some cv := by simp [readR, hcp]
              have hre : readE l = 0 := by simp [readE, hrr]
              rw [hrr, hre]
              refine read_out (n := w.heap.size + 2) hH c3 c4 (fun k o u h => (c5 k o u h).imp id fun h => by omega) (by omega) (by simp [World.setCell]) hb4 (((hb4.setCell (p := ⟨w.heap.size, 0, none⟩) (by simp only; omega) _).setCell (p := ⟨w.heap.size, 0, none⟩) (by simp only; omega) _).setCell (p := ⟨w.heap.size + 1, 0, none⟩) (by simp only; omega) _) (fun k hk => ?_) ?_
              · rw [Below.heap_setCell _ _ _ _ (by simp only; omega), Below.heap_setCell _ _ _ _ (by simp only; omega), Below.heap_setCell _ _ _ _ (by simp only; omega)]
              · exact VR.tup' (VRs.cons c2 (VRs.cons (.int _ _) (VRs.nil _)))
            · have hpos : 0 < t.length := List.length_pos_iff.2 ht
              go_wp2_with (first
                | (go_at_call 26; refine (hC hB3 (by omega) (by omega) hu (by simp [World.cell?, g2]) (by simp [World.frozen?, g2])).mono ?_; rintro e W4 ⟨⟨x, ν, rfl, c2, c3, c4, c5, s, cc, c6⟩, hgr⟩; obtain ⟨ty, xv, rfl⟩ := cvV_iface c2; have d0 : W4.heap[w.heap.size]? = some (.cells #[.nilIface] 25 (0, 0)) := (hgr.block _ (by omega) (by intro e; have := Option.some.inj e; omega)).trans g0; have d1 : W4.heap[w.heap.size + 1]? = some (.cells #[.int .i64 0] 26 (0, 0)) := (hgr.block _ (by omega) (by intro e; have := Option.some.inj e; omega)).trans g1; have e0 : W4.cell? ⟨w.heap.size, 0, none⟩ = some .nilIface := (by simp [World.cell?, d0]); have z0 : W4.frozen? ⟨w.heap.size, 0, none⟩ = false := (by simp [World.frozen?, d0]); have e1 : W4.cell? ⟨w.heap.size + 1, 0, none⟩ = some (.int .i64 0) := (by simp [World.cell?, d1]); have z1 : W4.frozen? ⟨w.heap.size + 1, 0, none⟩ = false := (by simp [World.frozen?, d1]))
                | go_in)
              refine leaves_cons (f := 25) (args := #[.pointer (some ⟨w.heap.size, 0, none⟩), .pointer (some ⟨w.heap.size + 1, 0, none⟩)]) (by simp) (by simp [go_sem]) ?_
              refine (read_idle ⟨w.heap.size, 0, none⟩ ⟨w.heap.size + 1, 0, none⟩ _).mono ?_
              rintro e u' w'' ⟨rfl, rfl, rfl⟩
              simp [Leaves, settle, results, Try.results11, go_sem, e0, e1, z0, z1]
              have hb4 : Below w.heap.size w W4 := hB3.grown hgr (by omega) (fun k hk => by cases hk; omega)
              have hrr : readR l = none := by simp [readR, hcp, ht]
              have hre : readE l = 3 := by simp [readE, hrr]
              rw [hrr, hre]
              refine read_out (n := w.heap.size + 2) hH (hr_below hH hb4) (Mu.le_refl μ) (fun k o u h => .inl h) (by omega) (by simp [World.setCell]) hb4 (((hb4.setCell (p := ⟨w.heap.size, 0, none⟩) (by simp only; omega) _).setCell (p := ⟨w.heap.size, 0, none⟩) (by simp only; omega) _).setCell (p := ⟨w.heap.size + 1, 0, none⟩) (by simp only; omega) _) (fun k hk => ?_) ?_
              · rw [Below.heap_setCell _ _ _ _ (by simp only; omega), Below.heap_setCell _ _ _ _ (by simp only; omega), Below.heap_setCell _ _ _ _ (by simp only; omega)]
              · exact VR.tup' (VRs.cons .nili (VRs.cons (.int _ _) (VRs.nil _)))
      · cases h
    · cases h
  · cases h
end Go.Proofs.Ytdpjeplagapdgaa.M
namespace Go.Proofs.Ytdpjeplagapdgaa.M
open Go.Ai Go.Ai.G Go.RowKit
set_option maxRecDepth 100000
set_option linter.unusedVariables false
set_option linter.unusedSimpArgs false
theorem obR_alloc {B : Nat} {μ : Mu} {w : World} (hB : B ≤ w.heap.size) (vs : Array Value) (ty : TypeId) (c : List AV) (hc : VRs μ c vs.toList) : obR B μ (w.alloc (.cells vs ty (0, 0))) ⟨w.heap.size, 0, vs.size⟩ (.cells 0 false c) := by
  have h := heap_new w (.cells vs ty (0, 0))
  have hl : c.length = vs.size := by rw [hc.1]; simp
  refine ⟨by simp, by simp [hl], fun i v hv => ?_, (fun h => by cases h), fun _ => ⟨hB, fun i hi => ?_⟩⟩
  · obtain ⟨hi, _⟩ := List.getElem?_eq_some_iff.1 hv
    have hi2 : i < vs.size := by omega
    exact ⟨vs[i], by simp only [World.cell?, Nat.zero_add, h]; simp [hi2], hc.2 i _ _ hv (by simp [hi2])⟩
  · simp only at hi
    exact ⟨⟨vs[i], by simp only [World.cell?, Nat.zero_add, h]; simp [hi]⟩, by simp only [World.frozen?, h]; simp⟩
theorem sub_catch (b : Nat) (u : TypeId) (pv : Value) (older : List PanicEntry) (w : World) (d0 : w.heap[b]? = some (.cells #[.int .i64 0, .slice none 0 0, .slice none 0 0] 47 (0, 0))) (d1 : w.heap[b + 1]? = some (.cells #[.int .i64 0] 26 (0, 0))) :
    CallsD Try.prog 34 #[.pointer (some ⟨b, 0, none⟩), .pointer (some ⟨b + 1, 0, none⟩)] (.panicking ({ v := .iface u pv, recovered := false } :: older)) w fun e u' w' =>
      e = .returned (.tuple #[]) ∧ u' = .panicking ({ v := .iface u pv, recovered := true } :: older) ∧ w' = (((w.setCell ⟨b, 0, none⟩ (.int .i64 0)).setCell ⟨b, 1, none⟩ (.slice none 0 0)).setCell ⟨b, 2, none⟩ (.slice none 0 0)).setCell ⟨b + 1, 0, none⟩ (.int .i64 7) := by
  have c0 : w.cell? ⟨b, 0, none⟩ = some (.int .i64 0) := by simp [World.cell?, d0]
  have c1 : w.cell? ⟨b, 1, none⟩ = some (.slice none 0 0) := by simp [World.cell?, d0]
  have c2 : w.cell? ⟨b, 2, none⟩ = some (.slice none 0 0) := by simp [World.cell?, d0]
  have c3 : w.cell? ⟨b + 1, 0, none⟩ = some (.int .i64 0) := by simp [World.cell?, d1]
  have z0 : w.frozen? ⟨b, 0, none⟩ = false := by simp [World.frozen?, d0]
  have z1 : w.frozen? ⟨b, 1, none⟩ = false := by simp [World.frozen?, d0]
  have z2 : w.frozen? ⟨b, 2, none⟩ = false := by simp [World.frozen?, d0]
  have z3 : w.frozen? ⟨b + 1, 0, none⟩ = false := by simp [World.frozen?, d1]
  have e1 : (w.setCell ⟨b, 0, none⟩ (.int .i64 0)).cell? ⟨b, 1, none⟩ = some (.slice none 0 0) := by rw [World.cell?_setCell_other _ _ _ _ (by simp)]; exact c1
  have e2 : ((w.setCell ⟨b, 0, none⟩ (.int .i64 0)).setCell ⟨b, 1, none⟩ (.slice none 0 0)).cell? ⟨b, 2, none⟩ = some (.slice none 0 0) := by rw [World.cell?_setCell_other _ _ _ _ (by simp), World.cell?_setCell_other _ _ _ _ (by simp)]; exact c2
  have e3 : (((w.setCell ⟨b, 0, none⟩ (.int .i64 0)).setCell ⟨b, 1, none⟩ (.slice none 0 0)).setCell ⟨b, 2, none⟩ (.slice none 0 0)).cell? ⟨b + 1, 0, none⟩ = some (.int .i64 0) := by rw [World.cell?_setCell_other _ _ _ _ (by simp), World.cell?_setCell_other _ _ _ _ (by simp), World.cell?_setCell_other _ _ _ _ (by simp)]; exact c3
  refine callsD_of_wpS Try.func34 rfl fun c₀ cs hu => ?_
  apply wpS_seq
  apply wpS_region
  simp [wpOpsS, go_sem, recoverD, hu, Try.ntmps34, Exit.thenS]
  apply wpS_seq
  apply wpS_region
  simp [wpOpsS, go_sem, Exit.thenS, Array.replicate]
  refine wpS_cond (t := true) (by simp [Act.eval, Array.replicate]) ?_
  simp only [if_true]
  apply wpS_region
  simp [wpOpsS, go_sem, c0, e1, e2, e3, z0, z1, z2, z3, bodyPostS, results, Try.results34]
theorem sub_idle (p q : Addr) (w : World) :
    CallsD Try.prog 34 #[.pointer (some p), .pointer (some q)] .returning w fun e u' w' => e = .returned (.tuple #[]) ∧ u' = .returning ∧ w' = w := by
  refine callsD_of_wpS Try.func34 rfl fun c₀ cs hu => ?_
  apply wpS_seq
  apply wpS_region
  simp [wpOpsS, go_sem, recoverD, hu, Try.ntmps34, Exit.thenS]
  apply wpS_seq
  apply wpS_region
  simp [wpOpsS, go_sem, Exit.thenS, Array.replicate]
  refine wpS_cond (t := false) (by simp [Act.eval, Array.replicate]) ?_
  simp only [Bool.false_eq_true, if_false]
  refine wpS_of_wp (wp_skip ?_)
  cases c₀
  simp_all [bodyPostS, results, Try.results34]
set_option maxHeartbeats 4000000 in
theorem sub_bar (B : Nat) (μ : Mu) (w : World) (hH : HR B μ [] w) (k : Int) (v : AV) (l : List Int) (ps : List (List Int)) (hv : IsI v l) (hl : l.length < 1000000000) (hp : ps.length < 1000000000) (hps : ∀ q ∈ ps, q.length < 1000000000) (x : Value)
    (hx : VR μ (.agg [.int .i64 k, v, rR ps]) x) : Calls Try.prog 18 #[.iface 49 x] w (OutR B μ [] w (.ok (.tup [.agg [.int .i64 k, v, rR ps], .int .i64 0]) [])) := by
  have hmf : ∀ (fn : Fn) (first cap : Array Value) (w : World), (Instr.makeFunc fn first cap).run Try.prog w = .ok (.func fn first cap) w := fun _ _ _ _ => rfl
  go_enter_defers Try.func18, Try.ntmps18
  apply wp_seq
  apply wp_region
  generalize hcode : Code.seq (Code.region 2 _ _) _ = CC
  simp [wpOps, go_sem]
  refine .inl (.inl ?_)
  apply wp_seq
  apply wp_region
  simp [wpOps, go_sem, hmf]
  repeat refine .inl ?_
  subst hcode
  have hblk : ∀ z : Nat, z = z := fun _ => rfl
  obtain ⟨kk, ex, st', hrun, hex, h3, tv, pv, b0, b1, hvr⟩ := pc_sound (A := A0) _ _ _ (w_SubRest (φ := φs) (A := A0) cs0.clone k hv (by omega) ps (by omega) (fun q hq => by have := hps q hq; omega))
  subst hex
  have hE : ExtSound Try.prog A0.ext := fun f x hfx => by cases hfx
  obtain ⟨μ1, hμ1⟩ : ∃ μ1, (μ.set 0 0 ⟨w.heap.size, 0, 3⟩) = μ1 := ⟨_, rfl⟩
  obtain ⟨μ2, hμ2⟩ : ∃ μ2, (μ1.set 1 0 ⟨w.heap.size + 1, 0, 1⟩) = μ2 := ⟨_, rfl⟩
  obtain ⟨W1, hW1⟩ : ∃ W1, w.alloc (.cells #[.int .i64 0, .slice none 0 0, .slice none 0 0] 47) = W1 := ⟨_, rfl⟩
  obtain ⟨W2, hW2⟩ : ∃ W2, W1.alloc (.cells #[.int .i64 0] 26) = W2 := ⟨_, rfl⟩
  have s1 : W1.heap.size = w.heap.size + 1 := by rw [← hW1]; simp
  have H1 : HR B μ1 [.cells 0 false [.int .i64 0, .nils, .nils]] W1 ∧ Ext [] [.cells 0 false [.int .i64 0, .nils, .nils]] μ μ1 w W1 := by
    rw [← hW1, ← hμ1]
    exact HR.new hH _ _ ⟨w.heap.size, 0, 3⟩ rfl rfl (obR_alloc hH.base #[.int .i64 0, .slice none 0 0, .slice none 0 0] _ _ (VRs.cons (.int _ _) (VRs.cons .nils (VRs.cons .nils (VRs.nil _)))))
  have H2 : HR B μ2 [.cells 0 false [.int .i64 0, .nils, .nils], .cells 0 false [.int .i64 0]] W2 ∧ Ext [.cells 0 false [.int .i64 0, .nils, .nils]] [.cells 0 false [.int .i64 0, .nils, .nils], .cells 0 false [.int .i64 0]] μ1 μ2 W1 W2 := by
    rw [← hW2, ← hμ2, ← s1]
    exact HR.new H1.1 _ _ ⟨W1.heap.size, 0, 1⟩ rfl rfl (obR_alloc H1.1.base #[.int .i64 0] _ _ (VRs.cons (.int _ _) (VRs.nil _)))
  have hX := H1.2.trans H2.2
  have p0 : μ2 0 0 = some ⟨w.heap.size, 0, 3⟩ := by rw [← hμ2, Mu.set_other _ _ (by omega), ← hμ1]; exact Mu.set_same _ _ _ _
  have p1 : μ2 1 0 = some ⟨w.heap.size + 1, 0, 1⟩ := by rw [← hμ2]; exact Mu.set_same _ _ _ _
  have hx2 := hx.mono hX.le
  rw [hW1, hW2]
  refine code_sound (names := [0, 2, 3, 4, 6, 18, 19, 20, 21]) (nt := 33) (ds := [{ target := .fn (.func 34) #[.pointer (some ⟨w.heap.size, 0, none⟩), .pointer (some ⟨w.heap.size + 1, 0, none⟩)], args := #[] }]) (prog_sound hE chkAll kk) kk (b130 φs) _ _ _ _ _ _ _ .ret st' ?_ ?_ H2.1 hrun ?_
  · kernel_rfl
  · refine ⟨rfl, rfl, rfl, fun j t hj => ?_⟩
    rcases j with _ | _ | _ | _ | _ | _ | _ | _ | _ | j <;> simp at hj <;> subst hj
    · exact .iface hx2
    · exact .ptr p0
    · exact .ptr p1
    all_goals exact .un _
  · intro e a' w' ν he hI hH' hE'
    have hfin : ∃ v', (results Try.f18 a'.tmps).run Try.prog w' = .ok v' w' ∧ OutR B μ [] w (.ok (.tup [.agg [.int .i64 k, v, rR ps], .int .i64 0]) []) (.returned v') w' := by
      have g1 : st'.1.getD 1 .un = .ptr 0 0 0 := by
        have := congrArg (fun l : List AV => l.getD 1 .un) h3
        simpa [List.getD_eq_getElem?_getD, List.getElem?_take] using this
      have g2 : st'.1.getD 2 .un = .ptr 1 0 0 := by
        have := congrArg (fun l : List AV => l.getD 2 .un) h3
        simpa [List.getD_eq_getElem?_getD, List.getElem?_take] using this
      have hres : resVs st'.1 st'.2 [.cell 1 (some 3), .cell 2 none] = some [.agg [.int .i64 k, tv, pv], .int .i64 0] := by
        have r1 : resV st'.1 st'.2 (.cell 1 (some 3)) = some (.agg [.int .i64 k, tv, pv]) := by
          simp only [resV, g1, n_loadN, b0]; rfl
        have r2 : resV st'.1 st'.2 (.cell 2 none) = some (.int .i64 0) := by
          simp only [resV, g2, n_load1, b1]; rfl
        simp only [resVs, r1, r2]
      obtain ⟨us, hu1, hu2⟩ := res_sound (P := Try.prog) hI hH' (Try.f18).results.toList [.cell 1 (some 3), .cell 2 none] _ (by kernel_rfl) hres
      obtain ⟨u1, t1, rfl, v1, hu2⟩ := hu2.cases_cons
      obtain ⟨u2, t2, rfl, v2, hu2⟩ := hu2.cases_cons
      have := hu2.cases_nil; subst this
      refine ⟨.tuple #[u1, u2], ?_, ?_⟩
      · rw [results_eq, Sem.run_bind, Array.mapM_eq_mapM_toList, Sem.run_map, hu1]
        simp only [Result.andThen_ok, Sem.run_pure]; rfl
      · obtain ⟨ρ, H3, k1, k2, k3, k4⟩ := viewR_sound hH' v1 hvr
        have hx3 := hE'.trans k2
        have hb : Below w.heap.size w w' := by
          refine ⟨hE'.os.trans hX.os, hE'.tape.trans hX.tape, hE'.output.trans hX.output, Nat.le_trans hX.size hE'.size, fun k hk => ?_⟩
          rw [hE'.frame k (by have := hX.size; omega) fun b o a hb hr ha => ?_]
          · exact hX.frame k hk fun b o a hb => by simp at hb
          · rcases b with _ | _ | b
            · simp at hb; subst hb
              have : (⟨w.heap.size, 0, 3⟩ : At) = a := Option.some.inj (p0.symm.trans ha)
              subst this; show w.heap.size ≠ k; omega
            · simp at hb; subst hb
              have : (⟨w.heap.size + 1, 0, 1⟩ : At) = a := Option.some.inj (p1.symm.trans ha)
              subst this; show w.heap.size + 1 ≠ k; omega
            · simp at hb
        have hv2 : VR ⟨fun _ _ => none, ρ.im⟩ (.agg [.int .i64 k, v, rR ps]) u1 := VR.shut (μ := ρ) (ν := ⟨fun _ _ => none, ρ.im⟩) (fun _ _ _ h => h) k3 k4
        have hle : μ.le ⟨fun _ _ => none, ρ.im⟩ := ⟨(fun b g a h => by rw [hH.fresh b g (Nat.zero_le _)] at h; cases h), fun k o u h => k2.le.im k o u (hE'.le.im k o u (hX.le.im k o u h))⟩
        have h00 : VR ⟨fun _ _ => none, ρ.im⟩ (.int .i64 0) u2 := by cases v2; exact .int _ _
        refine read_out (n := w.heap.size) hH k1.bare hle (fun k o u h => ?_) (Nat.le_refl _) rfl hb hb (fun _ _ => rfl) (VR.tup' (VRs.cons hv2 (VRs.cons h00 (VRs.nil _))))
        have hsz := hX.size
        rcases hx3.im k o u h with e | e | ⟨b, ob, a, hb', hr, ha, hk⟩
        · rcases hX.im k o u e with e | e | ⟨b, ob, a, hb', hr, ha, hk⟩
          · exact .inl e
          · exact .inr e
          · simp at hb'
        · exact .inr (by omega)
        · right
          rcases b with _ | _ | b
          · have : (⟨w.heap.size, 0, 3⟩ : At) = a := Option.some.inj (p0.symm.trans (by simp at hb'; subst hb'; exact ha))
            subst this; rw [← hk]; exact Nat.le_refl _
          · have : (⟨w.heap.size + 1, 0, 1⟩ : At) = a := Option.some.inj (p1.symm.trans (by simp at hb'; subst hb'; exact ha))
            subst this; rw [← hk]; show w.heap.size ≤ w.heap.size + 1; omega
          · simp at hb'
    have : e = .ret := by
      cases e <;> simp only [exR] at he
      rfl
    subst this
    show Leaves Try.prog Try.f18 a'.tmps _ a'.defers .returning w'
    rw [hI.defers]
    refine leaves_cons (f := 34) (args := #[.pointer (some ⟨w.heap.size, 0, none⟩), .pointer (some ⟨w.heap.size + 1, 0, none⟩)]) (by simp) (by simp [go_sem]) ?_
    refine (sub_idle ⟨w.heap.size, 0, none⟩ ⟨w.heap.size + 1, 0, none⟩ _).mono ?_
    rintro e u' w'' ⟨rfl, rfl, rfl⟩
    exact hfin
theorem und_bar : ∃ fs, Try.prog.underlying 49 = some (.struct fs) := ⟨_, rfl⟩
theorem ta_fail (v : Value) (x : TypeId) (hv : v = .nilIface ∨ ∃ t x, v = .iface t x ∧ t ≠ 49) (w : World) : ∃ t pv o, (Instr.typeAssert v x 49 false).run Try.prog w = .halt (.panic (.iface t pv)) (w.alloc o) := by
  obtain ⟨fs, hfs⟩ := und_bar
  rcases hv with rfl | ⟨t, y, rfl, ht⟩
  · simp [Instr.typeAssert, run_underlying hfs, runtimePanic, goPanic, newVar, elemOf, go_sem]
    exact ⟨_, rfl⟩
  · simp [Instr.typeAssert, run_underlying hfs, runtimePanic, goPanic, ht, newVar, elemOf, go_sem]
    exact ⟨_, rfl⟩
theorem sub_no (B : Nat) (μ : Mu) (w : World) (hH : HR B μ [] w) (u : Value) (hu : u = .nilIface ∨ ∃ t x, u = .iface t x ∧ t ≠ 49) : Calls Try.prog 18 #[u] w (OutR B μ [] w (.ok subNo [])) := by
  have hmf : ∀ (fn : Fn) (first cap : Array Value) (w : World), (Instr.makeFunc fn first cap).run Try.prog w = .ok (.func fn first cap) w := fun _ _ _ _ => rfl
  go_enter_defers Try.func18, Try.ntmps18
  apply wp_seq
  apply wp_region
  generalize hcode : Code.seq (Code.region 2 _ _) _ = CC
  simp [wpOps, go_sem]
  refine .inl (.inl ?_)
  apply wp_seq
  apply wp_region
  simp [wpOps, go_sem, hmf]
  repeat refine .inl ?_
  subst hcode
  apply wp_seq
  apply wp_region
  generalize hcode : Code.seq (Code.region 3 _ _) _ = CC
  obtain ⟨W1, hW1⟩ : ∃ W1, w.alloc (.cells #[.int .i64 0, .slice none 0 0, .slice none 0 0] 47) = W1 := ⟨_, rfl⟩
  obtain ⟨W2, hW2⟩ : ∃ W2, W1.alloc (.cells #[.int .i64 0] 26) = W2 := ⟨_, rfl⟩
  rw [hW1, hW2]
  have s1 : W1.heap.size = w.heap.size + 1 := by rw [← hW1]; simp
  have s2 : W2.heap.size = w.heap.size + 2 := by rw [← hW2]; simp [s1]
  have hB2 : Below w.heap.size w W2 := by subst hW2 hW1; exact ((Below.refl _ w).alloc (Nat.le_refl _) _).alloc (by simp only [World.size_alloc]; omega) _
  obtain ⟨ty, pv, o, hta⟩ := ta_fail u 25 hu W2
  obtain ⟨W3, hW3⟩ : ∃ W3, W2.alloc o = W3 := ⟨_, rfl⟩
  rw [hW3] at hta
  have hB3 : Below w.heap.size w W3 := by rw [← hW3]; exact hB2.alloc (by omega) _
  have s3 : W3.heap.size = w.heap.size + 3 := by rw [← hW3]; simp [s2]
  have d0 : W3.heap[w.heap.size]? = some (.cells #[.int .i64 0, .slice none 0 0, .slice none 0 0] 47 (0, 0)) := by
    rw [← hW3, ← hW2, ← hW1, Below.heap_alloc _ _ _ (by simp only [World.size_alloc]; omega), Below.heap_alloc _ _ _ (by simp only [World.size_alloc]; omega)]
    exact heap_new _ _
  have d1 : W3.heap[w.heap.size + 1]? = some (.cells #[.int .i64 0] 26 (0, 0)) := by
    rw [← hW3, Below.heap_alloc _ _ _ (by omega), ← s1, ← hW2]
    exact heap_new _ _
  simp [wpOps, go_sem, hta]
  repeat refine .inl ?_
  have c0 : W3.cell? ⟨w.heap.size, 0, none⟩ = some (.int .i64 0) := by simp [World.cell?, d0]
  have c1 : W3.cell? ⟨w.heap.size, 1, none⟩ = some (.slice none 0 0) := by simp [World.cell?, d0]
  have c2 : W3.cell? ⟨w.heap.size, 2, none⟩ = some (.slice none 0 0) := by simp [World.cell?, d0]
  have c3 : W3.cell? ⟨w.heap.size + 1, 0, none⟩ = some (.int .i64 0) := by simp [World.cell?, d1]
  show Leaves Try.prog Try.f18 _ _ _ (.panicking _) W3
  refine leaves_cons (f := 34) (args := #[.pointer (some ⟨w.heap.size, 0, none⟩), .pointer (some ⟨w.heap.size + 1, 0, none⟩)]) (by simp) (by simp [go_sem]) ?_
  refine (sub_catch w.heap.size ty pv [] _ d0 d1).mono ?_
  rintro e u' w'' ⟨rfl, rfl, hw⟩
  have f0 : w''.cell? ⟨w.heap.size, 0, none⟩ = some (.int .i64 0) := by
    rw [hw, World.cell?_setCell_other _ _ _ _ (by simp), World.cell?_setCell_other _ _ _ _ (by simp), World.cell?_setCell_other _ _ _ _ (by simp)]
    exact World.cell?_setCell_same _ _ _ c0
  have f1 : w''.cell? ⟨w.heap.size, 1, none⟩ = some (.slice none 0 0) := by
    rw [hw, World.cell?_setCell_other _ _ _ _ (by simp), World.cell?_setCell_other _ _ _ _ (by simp)]
    exact World.cell?_setCell_same _ _ _ (by rw [World.cell?_setCell_other _ _ _ _ (by simp)]; exact c1)
  have f2 : w''.cell? ⟨w.heap.size, 2, none⟩ = some (.slice none 0 0) := by
    rw [hw, World.cell?_setCell_other _ _ _ _ (by simp)]
    exact World.cell?_setCell_same _ _ _ (by rw [World.cell?_setCell_other _ _ _ _ (by simp), World.cell?_setCell_other _ _ _ _ (by simp)]; exact c2)
  have f3 : w''.cell? ⟨w.heap.size + 1, 0, none⟩ = some (.int .i64 7) := by
    rw [hw]
    exact World.cell?_setCell_same _ _ _ (by rw [World.cell?_setCell_other _ _ _ _ (by simp), World.cell?_setCell_other _ _ _ _ (by simp), World.cell?_setCell_other _ _ _ _ (by simp)]; exact c3)
  have hb5 : Below w.heap.size w w'' := by
    rw [hw]
    exact (((hB3.setCell (p := ⟨w.heap.size, 0, none⟩) (by simp only; omega) _).setCell (p := ⟨w.heap.size, 1, none⟩) (by simp only; omega) _).setCell (p := ⟨w.heap.size, 2, none⟩) (by simp only; omega) _).setCell (p := ⟨w.heap.size + 1, 0, none⟩) (by simp only; omega) _
  have h5 : HR B μ [] w'' := hr_below hH hb5
  simp [Leaves, settle, results, Try.results18, go_sem, f0, f1, f2, f3]
  refine read_out (n := w.heap.size) hH h5 (Mu.le_refl μ) (fun k o u h => .inl h) (Nat.le_refl _) rfl hb5 hb5 (fun _ _ => rfl) ?_
  exact VR.tup' (VRs.cons (VR.agg' (VRs.cons (.int _ _) (VRs.cons .nils (VRs.cons .nils (VRs.nil _))))) (VRs.cons (.int _ _) (VRs.nil _)))
theorem sub_ext : ∀ args H out, subExt φs args H = some out → Enters Try.prog 18 ∧ H.length ≤ out.heap.length ∧ ∀ B μ w us, HR B μ H w → VRs μ args us → Calls Try.prog 18 us.toArray w (OutR B μ H w out) := by
  intro args H out h
  have hen : Enters Try.prog 18 := Go.Ai.enters_of Try.func18 (by kernel_rfl) (by kernel_rfl)
  unfold subExt at h
  split at h
  · cases h
    refine ⟨hen, Nat.zero_le _, fun B μ w us hH hv => ?_⟩
    obtain ⟨u, t1, rfl, hu, hv⟩ := hv.cases_cons
    have := hv.cases_nil; subst this
    cases hu
    exact sub_no B μ w hH _ (.inl rfl)
  · rename_i t x
    split at h
    · rename_i ht
      split at h
      · rename_i k v p
        split at h
        · rename_i l ps hl hps
          split at h
          · rename_i hn
            cases h
            refine ⟨hen, Nat.zero_le _, fun B μ w us hH hv => ?_⟩
            obtain ⟨u, t1, rfl, hu, hv⟩ := hv.cases_cons
            have := hv.cases_nil; subst this
            have hp := exRs_spec hps
            subst hp
            subst ht
            cases hu with
            | iface hu => exact sub_bar B μ w hH k v l ps (exI_is hl) hn.1 hn.2.1 (fun q hq => of_decide_eq_true (List.all_eq_true.1 hn.2.2 q hq)) _ hu
          · cases h
        · cases h
      · cases h
    · rename_i ht
      split at h
      · cases h
        refine ⟨hen, Nat.zero_le _, fun B μ w us hH hv => ?_⟩
        obtain ⟨u, t1, rfl, hu, hv⟩ := hv.cases_cons
        have := hv.cases_nil; subst this
        cases hu with
        | iface hu => exact sub_no B μ w hH _ (.inr ⟨_, _, rfl, ht⟩)
      · cases h
  · cases h
end Go.Proofs.Ytdpjeplagapdgaa.M
namespace Go.Proofs.Ytdpjeplagapdgaa.M
open Go.Ai Go.Ai.G
set_option maxRecDepth 100000
def ext : Nat → Option (List AV → Heap → Option (Out AV))
  | 11 => some (readExt φs)
  | 18 => some (subExt φs)
  | _ => none
def AP : AProg := ⟨fns, ext⟩
theorem extOk : ExtSound Try.prog AP.ext := by
  intro f g h
  simp only [AP] at h
  unfold ext at h
  split at h
  · cases h; exact read_ext
  · cases h; exact sub_ext
  · cases h
theorem td22 : TyD φs := ⟨by decide, by decide, by decide, by decide, by decide, by decide, by decide, by decide, by decide, by decide, by decide, by decide, by decide, by decide, by decide⟩
theorem c22 : Go.Ai.G.C22 AP φs := {
  td := td22
  read := fun v l hv hn => w_ReadV rfl v l hv hn (cvO_closed _ _)
  sub := rfl
  ints := ⟨rfl, rfl⟩
  crow := ⟨rfl, rfl⟩
  crows := ⟨rfl, rfl⟩
  order := ⟨rfl, rfl⟩
  clone := ⟨rfl, rfl⟩
  kinds := ⟨⟨rfl, rfl⟩, ⟨rfl, rfl⟩, ⟨rfl, rfl⟩, ⟨rfl, rfl⟩, ⟨rfl, rfl⟩, ⟨rfl, rfl⟩⟩
  same := ⟨rfl, rfl⟩ }
theorem shown : PVal AP (φs 84) [] (.bool true) := w_shown22 ⟨rfl, rfl⟩ c22
theorem i22 : Go.Ai.G.I22 AP φs := { c22 with
  is := ⟨rfl, rfl⟩
  rrow := ⟨rfl, rfl⟩
  rrows := ⟨rfl, rfl⟩
  rthings := ⟨rfl, rfl⟩
  rtrees := ⟨rfl, rfl⟩ }
end Go.Proofs.Ytdpjeplagapdgaa.M
namespace Go.Proofs.Ytdpjeplagapdgaa.M
open Go.Ai Go.Ai.G
set_option maxRecDepth 100000
theorem k22 : Go.Ai.G.K22 AP φs := { i22 with
  rRow := ⟨rfl, rfl⟩
  rRows := ⟨rfl, rfl⟩
  rSub := ⟨rfl, rfl⟩
  sameRows := ⟨rfl, rfl⟩ }
end Go.Proofs.Ytdpjeplagapdgaa.M
namespace Go.Proofs.Ytdpjeplagapdgaa.M
open Go.Ai Go.Ai.G
set_option maxRecDepth 100000
theorem l22 : Go.Ai.G.L22 AP φs := { k22 with
  putRow := ⟨rfl, rfl⟩
  putRows := ⟨rfl, rfl⟩ }
end Go.Proofs.Ytdpjeplagapdgaa.M
namespace Go.Proofs.Ytdpjeplagapdgaa.M
open Go.Ai Go.Ai.G
set_option maxRecDepth 100000
theorem m22 : Go.Ai.G.M22 AP φs := { l22 with
  same09 := ⟨rfl, rfl⟩ }
end Go.Proofs.Ytdpjeplagapdgaa.M
namespace Go.Proofs.Ytdpjeplagapdgaa.M
open Go.Ai Go.Ai.G
set_option maxRecDepth 100000
theorem n22 : Go.Ai.G.N22 AP φs := { l22 with
  putTrees := ⟨rfl, rfl⟩
  putCuts := ⟨rfl, rfl⟩ }
end Go.Proofs.Ytdpjeplagapdgaa.M
namespace Go.Proofs.Ytdpjeplagapdgaa.M
open Go.Ai Go.Ai.G Go.RowKit
set_option maxRecDepth 100000
set_option linter.unusedVariables false
set_option linter.unusedSimpArgs false
set_option maxHeartbeats 4000000 in
theorem read_heap {v : AV} {H : Heap} {t : (List Int × List (List Int)) × Heap × List Nat} (ht : GoodRun A0 φs v H t) (hv0 : ∃ b g o n cl ex, v = .sl b g o n 1 cl ex) (B : Nat) (μ : Mu) (w : World) (u : Value) (hH : HR B μ H w) (hu : VR μ v u) :
    Calls Try.prog 11 #[u] w (OutR B μ H w (.ok (.tup [cvV φs (.pages t.1.1 t.1.2), .int .i64 0]) (frzH t.2.2 t.2.1))) := by
  obtain ⟨sa, sn, sc, rfl⟩ : ∃ a n c, u = .slice a n c := by
    obtain ⟨b, g, o, n, cl, ex, rfl⟩ := hv0
    cases hu with
    | sl h1 h2 h3 h4 => exact ⟨_, _, _, rfl⟩
  have hmf : ∀ (fn : Fn) (first cap : Array Value) (w : World), (Instr.makeFunc fn first cap).run Try.prog w = .ok (.func fn first cap) w := fun _ _ _ _ => rfl
  go_enter_defers Try.func11, Try.ntmps11
  obtain ⟨W2, hW2⟩ : ∃ W2, ((w.alloc (.cells #[.nilIface] 25)).alloc (.cells #[.int .i64 0] 26)) = W2 := ⟨_, rfl⟩
  have hB2 : Below w.heap.size w W2 := by subst hW2; exact (((Below.refl _ w).alloc (Nat.le_refl _) _).alloc (by simp only [World.size_alloc]; omega) _)
  have hs2 : W2.heap.size = w.heap.size + 2 := by subst hW2; simp
  obtain ⟨W3, hW3⟩ : ∃ W3, W2.alloc (.cells #[.slice sa sn sc] 87) = W3 := ⟨_, rfl⟩
  have hs3 : W3.heap.size = w.heap.size + 3 := by rw [← hW3]; simp [hs2]
  have g0 : W3.heap[w.heap.size]? = some (.cells #[.nilIface] 25 (0, 0)) := by
    rw [← hW3, ← hW2, Below.heap_alloc _ _ _ (by simp only [World.size_alloc]; omega), Below.heap_alloc _ _ _ (by simp only [World.size_alloc]; omega)]
    exact heap_new _ _
  have g1 : W3.heap[w.heap.size + 1]? = some (.cells #[.int .i64 0] 26 (0, 0)) := by
    rw [← hW3, ← hW2, Below.heap_alloc _ _ _ (by simp only [World.size_alloc]; omega)]
    have := heap_new (w.alloc (.cells #[.nilIface] 25)) (.cells #[.int .i64 0] 26)
    simpa only [World.size_alloc] using this
  have hC := cert_callsH (A := A0) (φ := φs) rfl chkAll hH hB2 hs2 hu 87 ht
  rw [hW3] at hC
  go_wp2_with (first
    | (go_at_call 26; refine hC.mono ?_; rintro e W4 ⟨x, ρ, rfl, hp⟩; obtain ⟨ty, xv, rfl⟩ := cvV_iface hp.vr; have d0 : W4.heap[w.heap.size]? = some (.cells #[.nilIface] 25 (0, 0)) := hp.h0.trans g0; have d1 : W4.heap[w.heap.size + 1]? = some (.cells #[.int .i64 0] 26 (0, 0)) := hp.h1.trans g1; obtain ⟨s, cc, c6⟩ := hp.cell; have e0 : W4.cell? ⟨w.heap.size, 0, none⟩ = some .nilIface := (by simp [World.cell?, d0]); have z0 : W4.frozen? ⟨w.heap.size, 0, none⟩ = false := (by simp [World.frozen?, d0]); have e1 : W4.cell? ⟨w.heap.size + 1, 0, none⟩ = some (.int .i64 0) := (by simp [World.cell?, d1]); have z1 : W4.frozen? ⟨w.heap.size + 1, 0, none⟩ = false := (by simp [World.frozen?, d1]))
    | go_in)
  refine leaves_cons (f := 25) (args := #[.pointer (some ⟨w.heap.size, 0, none⟩), .pointer (some ⟨w.heap.size + 1, 0, none⟩)]) (by simp) (by simp [go_sem]) ?_
  refine (read_idle ⟨w.heap.size, 0, none⟩ ⟨w.heap.size + 1, 0, none⟩ _).mono ?_
  rintro e u' w'' ⟨rfl, rfl, rfl⟩
  simp [Leaves, settle, results, Try.results11, go_sem, e0, e1, z0, z1]
  have hk : ∀ (W : World) (p : Addr) (x : Value) (k : Nat), k ≠ p.block → (W.setCell p x).heap[k]? = W.heap[k]? := fun W p x k hk => by
    simp only [World.setCell, Array.getElem?_modify]
    rw [if_neg (fun e => hk e.symm)]
  have hb0 : ∀ (b : Nat) o a, (frzH t.2.2 t.2.1)[b]? = some o → o ≠ .dead → ρ b o.gen = some a → a.blk ≠ w.heap.size := fun b o a h1 h2 h3 => by
    rcases hp.ob b o a h1 h2 h3 with h | h <;> omega
  have hb1 : ∀ (b : Nat) o a, (frzH t.2.2 t.2.1)[b]? = some o → o ≠ .dead → ρ b o.gen = some a → a.blk ≠ w.heap.size + 1 := fun b o a h1 h2 h3 => by
    rcases hp.ob b o a h1 h2 h3 with h | h <;> omega
  have hi0 : ∀ k o u, ρ.im k o = some u → k ≠ w.heap.size := fun k o u h => by
    rcases hp.im k o u h with h | h <;> omega
  have hi1 : ∀ k o u, ρ.im k o = some u → k ≠ w.heap.size + 1 := fun k o u h => by
    rcases hp.im k o u h with h | h <;> omega
  have h5 := Go.Ai.G.HR.setOut (Go.Ai.G.HR.setOut (Go.Ai.G.HR.setOut hp.hr ⟨w.heap.size, 0, none⟩ (.iface ty xv) hb0 hi0) ⟨w.heap.size, 0, none⟩ (.iface ty xv) hb0 hi0) ⟨w.heap.size + 1, 0, none⟩ (.int .i64 0) hb1 hi1
  refine ⟨_, ρ, rfl, VR.tup' (VRs.cons hp.vr (VRs.cons (.int _ _) (VRs.nil _))), h5, ?_⟩
  have hx := hp.ex
  refine ⟨hx.le, hx.len, hx.calm, hx.blk, fun k hk' h => ?_, by simpa [World.setCell] using hx.size, hx.os, hx.tape, hx.output, fun h => Bool.noConfusion (show false = true from h), hx.im⟩
  rw [hk _ _ _ k (by simp only; omega), hk _ _ _ k (by simp only; omega), hk _ _ _ k (by simp only; omega)]
  exact hx.frame k hk' h
/-- Read as an outside function, for values and for what lies in the memory. -/
theorem read_both : ∃ rx : List AV → Heap → Option (Out AV), (∀ args H out, rx args H = some out → Enters Try.prog 11 ∧ H.length ≤ out.heap.length ∧ ∀ B μ w us, HR B μ H w → VRs μ args us → Calls Try.prog 11 us.toArray w (OutR B μ H w out)) ∧
    (∀ args out, readExt φs args [] = some out → rx args [] = some out) ∧
    (∀ v H t, GoodRun A0 φs v H t → (∃ b g o n cl ex, v = .sl b g o n 1 cl ex) → H ≠ [] → ∃ t, GoodRun A0 φs v H t ∧ rx [v] H = some (.ok (.tup [cvV φs (.pages t.1.1 t.1.2), .int .i64 0]) (frzH t.2.2 t.2.1))) := by
  classical
  refine ⟨fun args H => if H = [] then readExt φs args H else match args with
    | [v] => if h : ∃ t, GoodRun A0 φs v H t ∧ ∃ b g o n cl ex, v = .sl b g o n 1 cl ex then some (.ok (.tup [cvV φs (.pages h.choose.1.1 h.choose.1.2), .int .i64 0]) (frzH h.choose.2.2 h.choose.2.1)) else none
    | _ => none, fun args H out h => ?_, fun args out h => ?_, fun v H t ht hv hH => ?_⟩
  · simp only at h
    split at h
    · exact read_ext args H out h
    · split at h
      · rename_i v
        split at h
        · rename_i hex
          cases h
          obtain ⟨ht, hv⟩ := hex.choose_spec
          have hen : Enters Try.prog 11 := Go.Ai.enters_of Try.func11 (by kernel_rfl) (by kernel_rfl)
          refine ⟨hen, ?_, fun B μ w us hH hvs => ?_⟩
          · obtain ⟨k, r0, _, _, _, _, hfr⟩ := ht
            have := hfr.2
            rw [List.length_append] at this
            exact Nat.le_trans (Nat.le_add_right _ _) (Nat.le_trans this (Nat.le_of_eq (frz_len _ _).symm))
          · obtain ⟨u, t1, rfl, hu, hvs⟩ := hvs.cases_cons
            have := hvs.cases_nil; subst this
            exact read_heap ht hv B μ w u hH hu
        · cases h
      · cases h
  · simp only [if_true]
    exact h
  · have hex : ∃ t, GoodRun A0 φs v H t ∧ ∃ b g o n cl ex, v = .sl b g o n 1 cl ex := ⟨t, ht, hv⟩
    refine ⟨hex.choose, hex.choose_spec.1, ?_⟩
    simp only [if_neg hH, dif_pos hex]
end Go.Proofs.Ytdpjeplagapdgaa.M
namespace Go.Proofs.Ytdpjeplagapdgaa.M
open Go.Ai Go.Ai.G
set_option maxRecDepth 100000
def extO (rx : List AV → Heap → Option (Out AV)) : Nat → Option (List AV → Heap → Option (Out AV))
  | 11 => some rx
  | 18 => some (subExt φs)
  | _ => none
def APO (rx : List AV → Heap → Option (Out AV)) : AProg := ⟨fns, extO rx⟩
theorem own_pval : ∃ A : AProg, ExtSound Try.prog A.ext ∧ (A.fns.all fun p => chkFn Try.prog p.1 p.2) = true ∧ ∀ (v : AV) (l : List Int), IsI v l → ∀ x : Int, PVal A (φs 115) [v, .int .i64 x] (.bool true) := by
  obtain ⟨rx, hs, hval, hheap⟩ := read_both
  refine ⟨APO rx, ?_, chkAll, fun v l hv x => ?_⟩
  · intro f g h
    simp only [APO] at h
    unfold extO at h
    split at h
    · cases h; exact hs
    · cases h; exact sub_ext
    · cases h
  · have c22 : C22 (APO rx) φs := {
      td := td22
      read := fun v l hv hn => pval_ext rfl (hval _ _ (by simp [readExt, exI_of hv, hn])) (by rw [closed_tup, closeds_cons, closeds_cons, cvO_closed]; rfl)
      sub := rfl
      ints := ⟨rfl, rfl⟩
      crow := ⟨rfl, rfl⟩
      crows := ⟨rfl, rfl⟩
      order := ⟨rfl, rfl⟩
      clone := ⟨rfl, rfl⟩
      kinds := ⟨⟨rfl, rfl⟩, ⟨rfl, rfl⟩, ⟨rfl, rfl⟩, ⟨rfl, rfl⟩, ⟨rfl, rfl⟩, ⟨rfl, rfl⟩⟩
      same := ⟨rfl, rfl⟩ }
    have o22 : O22 (APO rx) φs := { c22 with
      putRow := ⟨rfl, rfl⟩
      readH := fun {H v o c} hr hsl hne hlen K hK => by
        obtain ⟨H1, bs, ht⟩ := goodRun (A := A0) (φ := φs) ⟨rfl, rfl⟩ cs0 hr hlen rfl
        obtain ⟨t, ht2, hrx⟩ := hheap v H _ ht hsl hne
        have hvl := goodRun_val (A := A0) (φ := φs) ⟨rfl, rfl⟩ cs0 hr hlen rfl ht2
        rw [hvl] at hrx
        refine pcall_ext (x := rx) rfl hrx ?_
        obtain ⟨k', r0, _, _, _, hb, hfr⟩ := ht2
        refine hK _ (fun k hk => ?_) ?_
        · rw [frz_out _ (fun hm => by have := hb k hm; omega), hfr.1 k (by omega) (by rw [List.length_append]; omega), List.getElem?_append_left hk]
        · rw [frz_len]
          have := hfr.2
          rw [List.length_append] at this
          omega }
    exact w_CertOwn ⟨rfl, rfl⟩ (w_shown22 ⟨rfl, rfl⟩ c22) o22 v l hv x
end Go.Proofs.Ytdpjeplagapdgaa.M
