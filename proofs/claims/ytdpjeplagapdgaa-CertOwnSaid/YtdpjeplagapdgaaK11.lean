/- A part of what the law leans on: the abstract machine, the contracts, the rows. -/
import Derived.Test.YtdpjeplagapdgaaK10
import Derived.MapKept
/- cert.Read of numbers that lie in the memory. -/
namespace Go.Ai.G
open Go.Ai Go.RowKit
set_option maxRecDepth 100000
set_option linter.unusedSimpArgs false
set_option linter.unusedVariables false
/-- A run of cert.source.cert on a source of its own, that reads all, a certificate of kind Pages. -/
def GoodRun (A : AProg) (φ : Nat → Nat) (v : AV) (H : Heap) (t : (List Int × List (List Int)) × Heap × List Nat) : Prop :=
  ∃ k r0, callK A k (φ 128) [.ptr H.length 0 0] (H ++ [.cells 0 false [v]]) = some (.ok r0 t.2.1) ∧ SrcS true H.length H.length t.2.1 [] ∧ SeesF 8 t.2.1 r0 (cvV φ (.pages t.1.1 t.1.2)) t.2.2 ∧ (∀ b ∈ t.2.2, H.length < b) ∧ Fr H.length (H ++ [.cells 0 false [v]]) t.2.1
theorem goodRun {A : AProg} {φ : Nat → Nat} (h : Has A (φ 128) (f128 φ)) (g : CS A φ) {H : Heap} {v : AV} {l : List Int} {o : List Int} {c : List (List Int)} (hv : RdI H.length H v l) (hn : l.length < 1000000000000) (hl : l = putC (.pages o c)) : ∃ H1 bs, GoodRun A φ v H ((o, c), H1, bs) := by
  have hs : SrcS false H.length H.length (H ++ [.cells 0 false [v]]) l := ⟨v, get_at0 _ _, hv.keep fun b hb => List.getElem?_append_left hb, Nat.le_refl _, fun h => by cases h⟩
  have hc : certP l = some (some (.pages o c), []) := (certP_iff _ _ _).2 ⟨by rw [hl, List.append_nil], trivial⟩
  obtain ⟨k, out, hk, hout⟩ := w_certP h g hs hn hc (fun r H1 => ∃ bs, SrcS true H.length H.length H1 [] ∧ SeesF 8 H1 r (cvV φ (.pages o c)) bs ∧ (∀ b ∈ bs, H.length < b) ∧ Fr H.length (H ++ [.cells 0 false [v]]) H1) (fun _ _ => False)
    (fun r H1 bs e1 e2 e3 e4 => ⟨bs, e1, e2, e3, e4⟩)
  cases out with
  | pan r H1 => exact absurd hout id
  | ok r H1 =>
    obtain ⟨bs, e1, e2, e3, e4⟩ := hout
    exact ⟨H1, bs, k, r, hk, e1, e2, e3, e4⟩
/-- The run that was chosen is the run of these numbers. -/
theorem goodRun_val {A : AProg} {φ : Nat → Nat} (h : Has A (φ 128) (f128 φ)) (g : CS A φ) {H : Heap} {v : AV} {l : List Int} {o : List Int} {c : List (List Int)} (hv : RdI H.length H v l) (hn : l.length < 1000000000000) (hl : l = putC (.pages o c)) {t : (List Int × List (List Int)) × Heap × List Nat} (ht : GoodRun A φ v H t) : cvV φ (.pages t.1.1 t.1.2) = cvV φ (.pages o c) := by
  have hs : SrcS false H.length H.length (H ++ [.cells 0 false [v]]) l := ⟨v, get_at0 _ _, hv.keep fun b hb => List.getElem?_append_left hb, Nat.le_refl _, fun h => by cases h⟩
  have hc : certP l = some (some (.pages o c), []) := (certP_iff _ _ _).2 ⟨by rw [hl, List.append_nil], trivial⟩
  obtain ⟨k, out, hk, hout⟩ := w_certP h g hs hn hc (fun r H1 => viewR H1 r = some (cvV φ (.pages o c))) (fun _ _ => False) (fun r H1 bs e1 e2 e3 e4 => e2.vr (by omega))
  obtain ⟨k2, r0, hk2, _, e2, _⟩ := ht
  have e1 := callK_mono A k (max k k2) (by omega) _ _ _ _ hk
  have e1' := callK_mono A k2 (max k k2) (by omega) _ _ _ _ hk2
  rw [e1] at e1'
  cases e1'
  have h3 := e2.vr (by omega)
  have hout' : viewR t.2.1 r0 = some (cvV φ (.pages o c)) := hout
  rw [h3] at hout'
  exact Option.some.inj hout'
theorem heap_new' (w : World) (o : Obj) : (w.alloc o).heap[w.heap.size]? = some o := (Go.MapKept.heap_alloc w o).1
theorem obR_allocG {B : Nat} {μ : Mu} {w : World} (hB : B ≤ w.heap.size) (vs : Array Value) (ty : TypeId) (c : List AV) (hc : VRs μ c vs.toList) : obR B μ (w.alloc (.cells vs ty (0, 0))) ⟨w.heap.size, 0, vs.size⟩ (.cells 0 false c) := by
  have h := heap_new' w (.cells vs ty (0, 0))
  have hl : c.length = vs.size := by rw [hc.1]; simp
  refine ⟨by simp, by simp [hl], fun i v hv => ?_, (fun h => by cases h), fun _ => ⟨hB, fun i hi => ?_⟩⟩
  · obtain ⟨hi, _⟩ := List.getElem?_eq_some_iff.1 hv
    have hi2 : i < vs.size := by omega
    exact ⟨vs[i], by simp only [World.cell?, Nat.zero_add, h]; simp [hi2], hc.2 i _ _ hv (by simp [hi2])⟩
  · simp only at hi
    exact ⟨⟨vs[i], by simp only [World.cell?, Nat.zero_add, h]; simp [hi]⟩, by simp only [World.frozen?, h]; simp⟩
/-- A cell that belongs to none of it is written. -/
theorem HR.setOut {B : Nat} {μ : Mu} {H : Heap} {w : World} (h : HR B μ H w) (p : Addr) (x : Value) (h1 : ∀ (b : Nat) o a, H[b]? = some o → o ≠ .dead → μ b o.gen = some a → a.blk ≠ p.block) (h2 : ∀ k o u, μ.im k o = some u → k ≠ p.block) : HR B μ H (w.setCell p x) := by
  have hk : ∀ k, k ≠ p.block → (w.setCell p x).heap[k]? = w.heap[k]? := fun k hk => by
    simp only [World.setCell, Array.getElem?_modify]
    rw [if_neg (fun e => hk e.symm)]
  have hs : (w.setCell p x).heap.size = w.heap.size := by simp [World.setCell]
  refine ⟨fun b o hb hd => ?_, h.sep, h.gen, h.fresh, by rw [hs]; exact h.base, fun k o u hu => ?_, h.imsep⟩
  · obtain ⟨a, ha, hr⟩ := h.ob b o hb hd
    exact ⟨a, ha, hr.keep (Mu.le_refl μ) (hk _ (h1 b o a hb hd ha)) (by rw [hs]; exact Nat.le_refl _)⟩
  · obtain ⟨e1, e2⟩ := h.im k o u hu
    refine ⟨by rw [hs]; exact e1, ?_⟩
    rw [cell?_same (hk k (h2 k o u hu))]; exact e2
/-- What the call leaves behind. -/
structure ReadPost (φ : Nat → Nat) (B : Nat) (μ : Mu) (H : Heap) (w W3 : World) (t : (List Int × List (List Int)) × Heap × List Nat) (x : Value) (ρ : Mu) (W4 : World) : Prop where
  vr : VR ρ (cvV φ (.pages t.1.1 t.1.2)) x
  hr : HR B ρ (frzH t.2.2 t.2.1) W4
  ex : Ext H (frzH t.2.2 t.2.1) μ ρ w W4
  ob : ∀ (b : Nat) o a, (frzH t.2.2 t.2.1)[b]? = some o → o ≠ .dead → ρ b o.gen = some a → a.blk < w.heap.size ∨ w.heap.size + 2 ≤ a.blk
  im : ∀ k o u, ρ.im k o = some u → k < w.heap.size ∨ w.heap.size + 2 ≤ k
  h0 : W4.heap[w.heap.size]? = W3.heap[w.heap.size]?
  h1 : W4.heap[w.heap.size + 1]? = W3.heap[w.heap.size + 1]?
  cell : ∃ s c, W4.cell? ⟨w.heap.size + 2, 0, none⟩ = some (.slice s 0 c)
theorem cert_callsH {A : AProg} {φ : Nat → Nat} (hx : A.ext = fun _ => none) {P : Program} (hf : (A.fns.all fun p => chkFn P p.1 p.2) = true) {B : Nat} {μ : Mu} {w W2 : World} {H : Heap} (hH : HR B μ H w) (hb : Below w.heap.size w W2) (hs2 : W2.heap.size = w.heap.size + 2) {v : AV} {u : Value} (hv : VR μ v u) (ty : TypeId) {t : (List Int × List (List Int)) × Heap × List Nat} (ht : GoodRun A φ v H t) :
    Calls P (φ 128) #[.pointer (some ⟨w.heap.size + 2, 0, none⟩)] (W2.alloc (.cells #[u] ty (0, 0))) (fun e W4 => ∃ x ρ, e = .returned x ∧ ReadPost φ B μ H w (W2.alloc (.cells #[u] ty (0, 0))) t x ρ W4) := by
  obtain ⟨k, r0, hk, hsrc, hsees, hbs, hfr⟩ := ht
  have hE0 : Ext [] [] ⟨fun _ _ => none, μ.im⟩ ⟨fun _ _ => none, μ.im⟩ w W2 := ⟨Mu.le_refl _, Nat.le_refl _, fun b o h => by simp at h, fun b o a h => by simp at h, fun k hk _ => hb.block k hk, hb.size, hb.os, hb.tape, hb.output, fun h => Bool.noConfusion (show false = true from h), fun _ _ _ h => .inl h⟩
  obtain ⟨hr2, hx2⟩ := hH.after hE0
  have hnew := HR.new hr2 (.cells #[u] ty (0, 0)) (.cells 0 false [v]) ⟨W2.heap.size, 0, 1⟩ rfl rfl (obR_allocG hr2.base #[u] ty [v] (VRs.cons (hv.mono (Mu.le_set _ (hH.fresh _ _ (Nat.le_refl _)))) (VRs.nil _)))
  obtain ⟨W3, hW3⟩ : ∃ W3, W2.alloc (.cells #[u] ty (0, 0)) = W3 := ⟨_, rfl⟩
  obtain ⟨μ3, hμ3⟩ : ∃ μ3, μ.set H.length 0 ⟨W2.heap.size, 0, 1⟩ = μ3 := ⟨_, rfl⟩
  rw [hW3, hμ3] at hnew
  rw [hW3]
  obtain ⟨hr3, hx3⟩ := hnew
  have hs3 : W3.heap.size = w.heap.size + 3 := by rw [← hW3]; simp [hs2]
  have hq3 : μ3 H.length 0 = some ⟨W2.heap.size, 0, 1⟩ := by rw [← hμ3]; exact Mu.set_same _ _ _ _
  have hlo : ∀ b g, b < H.length → μ3 b g = μ b g := fun b g hb => by rw [← hμ3]; exact Mu.set_other _ _ (by omega)
  have him : ∀ k o, μ3.im k o = μ.im k o := fun k o => by rw [← hμ3]; rfl
  have hE : ExtSound P A.ext := fun f x hfx => by rw [hx] at hfx; cases hfx
  refine ((prog_sound hE hf k _ _ _ _ hk).2.2 B _ W3 [.pointer (some ⟨w.heap.size + 2, 0, none⟩)] hr3 (VRs.cons (by have := VR.ptr (o := 0) hq3; simpa [hs2] using this) (VRs.nil _))).mono ?_
  rintro e W4 ⟨x, ν, rfl, h2, h3, h4⟩
  obtain ⟨h5, h6⟩ := hsees 12 (by omega)
  obtain ⟨ρ, k1, k2⟩ := frzH_sound t.2.2 h3
  obtain ⟨m1, m2⟩ := viewV_sound k1 _ _ _ _ (h6 t.2.2 fun b hb => hb) (h2.mono k2.le)
  have hx4 := h4.trans k2
  have hall := (hx2.trans hx3).trans hx4
  have hblk : ∀ (b : Nat) o a, (H ++ [Ob.cells 0 false [v]])[b]? = some o → o ≠ .dead → μ3 b o.gen = some a → a.blk < w.heap.size ∨ a.blk = w.heap.size + 2 := fun b o a hb hd ha => by
    by_cases e : b < H.length
    · rw [List.getElem?_append_left e] at hb
      rw [hlo b _ e] at ha
      obtain ⟨a', ha', hob⟩ := hH.ob b o hb hd
      rw [ha] at ha'
      cases ha'
      exact .inl (hob.lt hd)
    · rw [List.getElem?_append_right (by omega)] at hb
      have : b = H.length := by
        have := (List.getElem?_eq_some_iff.1 hb).1
        simp at this; omega
      subst this
      simp at hb
      subst hb
      have : (⟨W2.heap.size, 0, 1⟩ : At) = a := Option.some.inj (hq3.symm.trans ha)
      subst this
      exact .inr hs2
  have hrwd : ∀ o : Ob, o.rw = true → o ≠ .dead := fun o h e => by subst e; simp [Ob.rw] at h
  refine ⟨x, ρ, rfl, m1, k1, hall, fun b o a hb' hd ha => ?_, fun k o u' hu => ?_, hx4.frame _ (by omega) fun b o a hb' hr ha e => ?_, hx4.frame _ (by omega) fun b o a hb' hr ha e => ?_, ?_⟩
  · rcases hx4.blk b o a hb' hd ha with h | ⟨o', a', e1, e2, _, e4, e5⟩
    · exact .inr (by omega)
    · rcases hblk b o' a' e1 e2 e4 with h | h
      · exact .inl (by omega)
      · exact .inr (by omega)
  · rcases hx4.im k o u' hu with h | h | ⟨b, ob, a, e1, e2, e3, e4⟩
    · rw [him] at h
      exact .inl (hH.im k o u' h).1
    · exact .inr (by omega)
    · rcases hblk b ob a e1 (hrwd _ e2) e3 with h | h
      · exact .inl (by omega)
      · exact .inr (by omega)
  · rcases hblk b o a hb' (hrwd _ hr) ha with h | h <;> omega
  · rcases hblk b o a hb' (hrwd _ hr) ha with h | h <;> omega
  · obtain ⟨v2, b1, b2, _, b4⟩ := hsrc
    obtain ⟨a, ha, hob⟩ := h3.ob _ _ b1 (by simp)
    have : (⟨W2.heap.size, 0, 1⟩ : At) = a := Option.some.inj ((h4.le.pl _ _ _ hq3).symm.trans ha)
    subst this
    obtain ⟨u2, c1, c2⟩ := hob.2.2.1 0 v2 rfl
    obtain ⟨s, c, rfl⟩ := rd_slice b2 (b4 rfl) c2
    refine ⟨s, c, ?_⟩
    have c1' : W4.cell? ⟨W2.heap.size, 0, none⟩ = some (.slice s 0 c) := c1
    rw [hs2] at c1'
    exact c1'
end Go.Ai.G
/- CertOwn: what is told may be written over. -/
namespace Go.Ai.G
open Go.Ai
set_option maxRecDepth 100000
set_option linter.unusedSimpArgs false
set_option linter.unusedVariables false
variable {A : AProg} {φ : Nat → Nat}
attribute [local simp ↓] getD_z getD_s hid_k hid_o hid_q hid_v PO_nil PO_none PO_grd PD_nil PD_none PD_grd PDO_N PDO_X PDO_call PDO_calli PDO_callv PSX_N PSX_X PSX_call PSX_calli PSX_callv PSX_inv
  PSX_callp PSX_panic PDO_inv PStep_inv thenC_pan blockC_pan loopC_pan endX_ret endX_norm endX_pan PStep_N PStep_X PStep_call PStep_calli PC_skip PC_lab PC_ret PC_exit PC_reg PC_draw
  PC_seq PC_block PC_loop PC_scope PC_cond thenC_norm thenC_ret thenC_exit blockC_norm blockC_ret blockC_exit loopC_norm loopC_ret loopC_exit endR_ret endR_norm
attribute [local simp] gz PDX_free PDX_eq KI_some n_mki n_tas0 n_tasf PStep_callv resK_none resK_t resK_tt KNO_val KNO_new KNO_ite KNO_map KXO_some KXO_ite KVA_t KVA_f KG_skip KG_tt KG_ff KG_tf KG_ft
  KB_true KB_false KNOD_val KNOD_new KNOD_ite n_mv n_pick n_bin n_eqB n_eqN n_eqS n_un n_conv n_fadd n_faddV n_fld1 n_fldN n_idx n_idxA n_idxV n_idxAV n_ext n_lenS n_lenS0 n_lenV
  n_lenT n_lenA n_min n_max n_build n_mkfn n_slc n_slc0 n_slcV n_slcA n_load1 n_loadN n_load1V n_loadNV n_alloc n_box n_bsl n_mksl n_nilcP n_nilcV n_nilcI n_nilcF x_store x_clear0
  x_clear b_add b_sub b_mul b_eql b_neq b_lss b_leq b_gtr b_geq b_and16 unV ntouch gather hide unhide evalOpd applyOuts int_bne int_beq ite_bool ite_int one_bool cells_bool one_int
  cells_int one_str cells_str one_nilp cells_nilp one_ptr cells_ptr one_nils cells_nils one_sl cells_sl one_nilf cells_nilf one_fn cells_fn one_nili cells_nili one_mp cells_mp
  one_nilm cells_nilm one_iface cells_iface one_vs cells_vs one_vp cells_vp cells_agg Nat.testBit setAt_1 setAt_2 closeds_nil closeds_cons closed_bool closed_int closed_str
  closed_nilp closed_nils closed_nilm closed_nilf closed_nili closed_agg closed_tup closed_vs closed_vp closed_iface closed_fn closeds_cI closeds_cE viewA_closed viewR_closed AV.scal
  AV.scal0 fillA repA part_bool part_int part_str part_nilp part_ptr part_nils part_sl part_nilm part_mp part_nilf part_fn part_nili part_iface part_agg part_vs part_vp viewA_sl1
  vaSl_cells wrap_0 wrap_1 wrap_2 wrap_m1 set_last get_last
theorem er115_0 (φ : Nat → Nat) : r115_0 φ = [
  ⟨0, .N .mv, [.c (.bool false)], none, 0⟩] := Eq.trans rfl rfl
theorem er115_1 (φ : Nat → Nat) : r115_1 φ = [
  ⟨0, .calli true (φ 84), [], none, 0⟩,
  ⟨1, .N .mv, [.l 0], none, 0⟩] := Eq.trans rfl rfl
theorem er115_2 (φ : Nat → Nat) : r115_2 φ = [
  ⟨0, .N (.bsl [.int .i64 0] 0 1 []), [], none, 0⟩,
  ⟨1, .N .mv, [.n 0], none, 0⟩,
  ⟨2, .N .mv, [.n 0], none, 0⟩,
  ⟨3, .N .lenS, [.l 0], none, 0⟩,
  ⟨4, .N .min, [.l 0, .c (.int .i64 30)], none, 0⟩,
  ⟨5, .N (.slc 1 false true false), [.l 3, .l 0], none, 0⟩,
  ⟨6, .X (.app 1 8), [.l 5, .l 0], none, 0⟩,
  ⟨7, .N .mv, [.l 0], none, 0⟩] := Eq.trans rfl rfl
theorem er115_3 (φ : Nat → Nat) : r115_3 φ = [
  ⟨0, .N .mv, [.n 0], none, 0⟩,
  ⟨1, .N .lenS, [.l 0], none, 0⟩,
  ⟨2, .N (.bsl [.int .i64 0] 2 1 [(0, 1), (1, 1)]), [.c (.int .i64 1), .l 0], none, 0⟩,
  ⟨3, .N .mv, [.n 0], none, 0⟩,
  ⟨4, .X (.app 1 8), [.l 1, .l 0], none, 0⟩,
  ⟨5, .N .mv, [.l 0], none, 0⟩] := Eq.trans rfl rfl
theorem er115_4 (φ : Nat → Nat) : r115_4 φ = [
  ⟨0, .N .mv, [.n 4], none, 0⟩,
  ⟨1, .N (.bsl [.int .i64 0] 1 1 [(0, 1)]), [.c (.int .i64 1)], none, 0⟩,
  ⟨2, .X (.app 1 8), [.l 1, .l 0], none, 0⟩,
  ⟨3, .N .mv, [.l 0], none, 0⟩] := Eq.trans rfl rfl
theorem er115_5 (φ : Nat → Nat) : r115_5 φ = [
  ⟨0, .N .mv, [.n 4], none, 0⟩,
  ⟨1, .N .mv, [.n 0], none, 0⟩,
  ⟨2, .calli false (φ 101), [.l 0], none, 0⟩,
  ⟨3, .X (.app 1 8), [.l 2, .l 0], none, 0⟩,
  ⟨4, .N .mv, [.l 0], none, 0⟩] := Eq.trans rfl rfl
theorem er115_6 (φ : Nat → Nat) : r115_6 φ = [
  ⟨0, .N (.bsl [.int .i64 0] 0 1 []), [], none, 0⟩,
  ⟨1, .N .mv, [.n 4], none, 0⟩,
  ⟨2, .X (.app 1 8), [.l 1, .l 0], none, 0⟩,
  ⟨3, .N .mv, [.l 0], none, 0⟩] := Eq.trans rfl rfl
theorem er115_7 (φ : Nat → Nat) : r115_7 φ = [
  ⟨0, .N .mv, [.n 4], none, 0⟩,
  ⟨1, .call (φ 85), [.l 0], none, 0⟩,
  ⟨2, .N .mv, [.l 0], none, 0⟩,
  ⟨3, .N (.ext 0), [.l 0], none, 0⟩,
  ⟨4, .N (.ext 1), [.l 1], none, 0⟩,
  ⟨5, .N .mv, [.l 1], none, 0⟩,
  ⟨6, .N .mv, [.l 1], none, 0⟩] := Eq.trans rfl rfl
theorem er115_8 (φ : Nat → Nat) : r115_8 φ = [
  ⟨0, .N .mv, [.c (.int .i64 0)], none, 0⟩] := Eq.trans rfl rfl
theorem er115_9 (φ : Nat → Nat) : r115_9 φ = [
  ⟨0, .N .mv, [.n 8], none, 0⟩,
  ⟨1, .N .mv, [.n 4], none, 0⟩,
  ⟨2, .N .lenS, [.l 0], none, 0⟩,
  ⟨3, .N (.bin .lss), [.l 2, .l 0], none, 0⟩] := Eq.trans rfl rfl
theorem er115_10 (φ : Nat → Nat) : r115_10 φ = [
  ⟨0, .N .mv, [.n 4], none, 0⟩,
  ⟨1, .N .mv, [.n 8], none, 0⟩,
  ⟨2, .N .mv, [.n 1], none, 0⟩,
  ⟨3, .N (.idx 1), [.l 2, .l 1], none, 0⟩,
  ⟨4, .X (.store 1), [.l 0, .l 1], none, 0⟩] := Eq.trans rfl rfl
theorem er115_11 (φ : Nat → Nat) : r115_11 φ = [
  ⟨0, .N .mv, [.n 8], none, 0⟩,
  ⟨1, .N (.bin .add), [.l 0, .c (.int .i64 1)], none, 0⟩,
  ⟨2, .N .mv, [.l 0], none, 0⟩] := Eq.trans rfl rfl
theorem er115_13 (φ : Nat → Nat) : r115_13 φ = [
  ⟨0, .N .mv, [.n 6], none, 0⟩,
  ⟨1, .call (φ 99), [.l 0], none, 0⟩,
  ⟨2, .N .mv, [.l 0], none, 0⟩] := Eq.trans rfl rfl
theorem er115_14 (φ : Nat → Nat) : r115_14 φ = [
  ⟨0, .N .mv, [.c (.int .i64 0)], none, 0⟩] := Eq.trans rfl rfl
theorem er115_15 (φ : Nat → Nat) : r115_15 φ = [
  ⟨0, .N .mv, [.n 10], none, 0⟩,
  ⟨1, .N .mv, [.n 9], none, 0⟩,
  ⟨2, .N .lenS, [.l 0], none, 0⟩,
  ⟨3, .N (.bin .lss), [.l 2, .l 0], none, 0⟩] := Eq.trans rfl rfl
theorem er115_16 (φ : Nat → Nat) : r115_16 φ = [
  ⟨0, .N .mv, [.n 9], none, 0⟩,
  ⟨1, .N .mv, [.n 10], none, 0⟩,
  ⟨2, .N .mv, [.n 1], none, 0⟩,
  ⟨3, .N (.idx 1), [.l 2, .l 1], none, 0⟩,
  ⟨4, .X (.store 1), [.l 0, .l 1], none, 0⟩] := Eq.trans rfl rfl
theorem er115_17 (φ : Nat → Nat) : r115_17 φ = [
  ⟨0, .N .mv, [.n 10], none, 0⟩,
  ⟨1, .N (.bin .add), [.l 0, .c (.int .i64 1)], none, 0⟩,
  ⟨2, .N .mv, [.l 0], none, 0⟩] := Eq.trans rfl rfl
theorem er115_19 (φ : Nat → Nat) : r115_19 φ = [
  ⟨0, .N .mv, [.n 6], none, 0⟩,
  ⟨1, .call (φ 103), [.l 0], none, 0⟩,
  ⟨2, .N .mv, [.l 0], none, 0⟩,
  ⟨3, .N (.ext 0), [.l 0], none, 0⟩,
  ⟨4, .N (.ext 1), [.l 1], none, 0⟩,
  ⟨5, .N .mv, [.l 1], none, 0⟩,
  ⟨6, .N .mv, [.l 1], none, 0⟩] := Eq.trans rfl rfl
theorem er115_20 (φ : Nat → Nat) : r115_20 φ = [
  ⟨0, .N .mv, [.c (.int .i64 0)], none, 0⟩] := Eq.trans rfl rfl
theorem er115_21 (φ : Nat → Nat) : r115_21 φ = [
  ⟨0, .N .mv, [.n 13], none, 0⟩,
  ⟨1, .N .mv, [.n 11], none, 0⟩,
  ⟨2, .N .lenS, [.l 0], none, 0⟩,
  ⟨3, .N (.bin .lss), [.l 2, .l 0], none, 0⟩] := Eq.trans rfl rfl
theorem er115_22 (φ : Nat → Nat) : r115_22 φ = [
  ⟨0, .N .mv, [.n 11], none, 0⟩,
  ⟨1, .N .mv, [.n 13], none, 0⟩,
  ⟨2, .N .mv, [.n 1], none, 0⟩,
  ⟨3, .N (.idx 1), [.l 2, .l 1], none, 0⟩,
  ⟨4, .X (.store 1), [.l 0, .l 1], none, 0⟩] := Eq.trans rfl rfl
theorem er115_23 (φ : Nat → Nat) : r115_23 φ = [
  ⟨0, .N .mv, [.n 13], none, 0⟩,
  ⟨1, .N (.bin .add), [.l 0, .c (.int .i64 1)], none, 0⟩,
  ⟨2, .N .mv, [.l 0], none, 0⟩] := Eq.trans rfl rfl
theorem er115_25 (φ : Nat → Nat) : r115_25 φ = [
  ⟨0, .N .mv, [.n 3], none, 0⟩,
  ⟨1, .N .mv, [.l 0], none, 0⟩,
  ⟨2, .N .mv, [.n 7], some (.l 0, true), 0⟩,
  ⟨3, .N (.bin .eql), [.l 0, .c (.int .i64 0)], some (.l 1, true), 0⟩,
  ⟨4, .N .pick, [.l 2, .l 0, .c (.bool false)], none, 0⟩,
  ⟨5, .N .mv, [.l 0], none, 0⟩,
  ⟨6, .N .mv, [.n 12], some (.l 0, true), 0⟩,
  ⟨7, .N .pick, [.l 1, .l 0, .c (.bool false)], none, 0⟩,
  ⟨8, .N .mv, [.l 0], none, 0⟩,
  ⟨9, .N .mv, [.n 6], some (.l 0, true), 0⟩,
  ⟨10, .call (φ 99), [.l 0], some (.l 1, true), 0⟩,
  ⟨11, .N .mv, [.n 5], some (.l 2, true), 0⟩,
  ⟨12, .calli true (φ 11), [.l 1, .l 0], some (.l 3, true), 0⟩,
  ⟨13, .N .pick, [.l 4, .l 0, .c (.bool false)], none, 0⟩,
  ⟨14, .N .mv, [.l 0], none, 0⟩] := Eq.trans rfl rfl
structure O22 (A : AProg) (φ : Nat → Nat) : Prop extends C22 A φ where
  putRow : Has A (φ 101) (f101 φ)
  readH : ∀ {H : Heap} {v : AV} {o : List Int} {c : List (List Int)}, RdI H.length H v (putC (.pages o c)) → (∃ b g o n cl ex, v = .sl b g o n 1 cl ex) → H ≠ [] → (putC (.pages o c)).length < 1000000000000 → ∀ K : AV → Heap → Prop, (∀ H1, (∀ k, k < H.length → H1[k]? = H[k]?) → H.length ≤ H1.length → K (.tup [cvV φ (.pages o c), .int .i64 0]) H1) → PCall A (φ 85) [v] H K
set_option maxHeartbeats 4000000 in
theorem w_IntsPagesH (td : TyD φ) (h : Has A (φ 99) (f99 φ)) (h1 : Has A (φ 120) (f120 φ)) (h2 : Has A (φ 121) (f121 φ)) {x y : AV} {o : List Int} {c : List (List Int)} (hx : IsI x o) (hy : IsRows y c) (hn : (putC (.pages o c)).length < 100000000000) (H : Heap) (K : AV → Heap → Prop)
    (hK : ∀ r H', OwnI false H.length H' r (putC (.pages o c)) → (∀ k, k < H.length → H'[k]? = H[k]?) → H.length ≤ H'.length → K r H') : PCall A (φ 99) [.iface (φ 93) (.agg [x, y])] H K := by
  have x1 := hx.one
  have x2 := hx.cells
  have y1 := hy.one
  have y2 := hy.cells
  simp only [putC, putRow, List.length_cons, List.length_append] at hn
  have e0 : (H ++ [Ob.cells 0 false [x, y], Ob.cells 0 false [.int .i64 1]])[H.length]? = some (.cells 0 false [x, y]) := by rw [get_at0]; rfl
  have e0a : (H ++ [Ob.cells 0 false [x, y]])[H.length]? = some (.cells 0 false [x, y]) := by rw [get_at0]; rfl
  refine pcall_has h rfl ?_
  simp only [l99_18, l99_20, l99_39, b99, f99]
  simp [-List.getD_eq_getElem?_getD, -Int.ofNat_toNat, -getElem?_pos, er99_0, er99_1, er99_2, er99_3, er99_4, er99_5, er99_6, er99_7, er99_8, er99_9, er99_10, er99_11, er99_12, er99_13, er99_14, er99_15, er99_16, er99_17, er99_19, er99_21, er99_22, er99_23, er99_24, er99_25, er99_26, er99_27, er99_28, er99_29, er99_30, er99_31, er99_32, er99_33, er99_34, er99_35, er99_36, er99_37, er99_38, er99_40, er99_41, n_tas, x1, x2, y1, y2, setAt, get_at, get_at0, set_at, set_at0]
  have hl0 : OwnI false (H.length + 1) (H ++ [Ob.cells 0 false [x, y], Ob.cells 0 false [.int .i64 1]]) (.sl (H.length + 1) 0 0 1 1 1 true) [1] := .inr ⟨by simp, H.length + 1, 0, true, rfl, Nat.le_refl _, rfl, by rw [get_at]; rfl⟩
  refine w_crow h1 hl0 hx (by simp) (by simp; omega) _ fun o1 H1 ho k1 l1 => ?_
  simp only [hid_k]
  refine ⟨fun b hb => k1 b (by simp at hb; omega), ?_⟩
  simp [-List.getD_eq_getElem?_getD, -Int.ofNat_toNat, -getElem?_pos, er99_0, er99_1, er99_2, er99_3, er99_4, er99_5, er99_6, er99_7, er99_8, er99_9, er99_10, er99_11, er99_12, er99_13, er99_14, er99_15, er99_16, er99_17, er99_19, er99_21, er99_22, er99_23, er99_24, er99_25, er99_26, er99_27, er99_28, er99_29, er99_30, er99_31, er99_32, er99_33, er99_34, er99_35, er99_36, er99_37, er99_38, er99_40, er99_41]
  simp only [List.length_append, List.length_cons, List.length_nil] at l1
  refine w_crows h2 h1 ho hy (by omega) (by simp only [List.length_append, List.length_cons, putRow, List.length_nil]; omega) _ fun o2 H2 ho2 k2 l2 => ?_
  simp only [hid_k]
  have hk := hK o2 H2 (Own.weak ho2 (by omega)) (fun k hk => by rw [k2 k (by omega), k1 k (by omega), List.getElem?_append_left hk]) (by omega)
  simp [-List.getD_eq_getElem?_getD, -Int.ofNat_toNat, -getElem?_pos, er99_0, er99_1, er99_2, er99_3, er99_4, er99_5, er99_6, er99_7, er99_8, er99_9, er99_10, er99_11, er99_12, er99_13, er99_14, er99_15, er99_16, er99_17, er99_19, er99_21, er99_22, er99_23, er99_24, er99_25, er99_26, er99_27, er99_28, er99_29, er99_30, er99_31, er99_32, er99_33, er99_34, er99_35, er99_36, er99_37, er99_38, er99_40, er99_41, Own.one ho2, Own.cells ho2, Own.part ho2, resK, resVs, resV, pack]
  exact hk
set_option maxHeartbeats 1000000 in
theorem w_OrderPagesH (h : Has A (φ 103) (f103 φ)) (hcl : Has A (φ 122) (f122 φ)) {y : AV} {o : List Int} {cs : List (List Int)} (hy : IsRows y cs) (hn : o.length < 1000000000000) (H : Heap) (K : AV → Heap → Prop)
    (hK : ∀ r H', OwnI false H.length H' r o → (∀ k, k < H.length → H'[k]? = H[k]?) → H.length ≤ H'.length → K (.tup [r, .bool true]) H') : PCall A (φ 103) [.iface (φ 93) (.agg [vI o, y])] H K := by
  have hx := isI_v o
  have x1 := hx.one
  have x2 := hx.cells
  have y1 := hy.one
  have y2 := hy.cells
  refine pcall_has h rfl ?_
  simp only [b103, f103]
  simp [-List.getD_eq_getElem?_getD, -Int.ofNat_toNat, -getElem?_pos, er103_0, er103_1, er103_2, er103_3, er103_4, er103_5, er103_6, er103_7, n_tas, setAt, x1, x2, y1, y2, get_at, get_at0, set_at, set_at0]
  refine w_CloneI hcl (P := 0) hx.rd (by simp) (Nat.zero_le _) hn _ fun ov H1 ho k1 l1 => ?_
  simp only [hid_k]
  simp only [List.length_append, List.length_cons, List.length_nil] at l1 k1
  have hk := hK ov H1 (Own.weak ho (by simp)) (fun k hk => by rw [k1 k (by omega), List.getElem?_append_left hk]) (by omega)
  simp [-List.getD_eq_getElem?_getD, -Int.ofNat_toNat, -getElem?_pos, er103_0, er103_1, er103_2, er103_3, er103_4, er103_5, er103_6, er103_7, Own.one ho, Own.cells ho, Own.part ho, resK, resVs, resV, pack]
  exact hk
/-- One number of a row of one's own is written. -/
theorem own_set {nl : Bool} {P : Nat} {H : Heap} {v : AV} {zs : List Int} (h : OwnI nl P H v zs) {i : Nat} (hi : i < zs.length) (x : Int) : ∃ b g, (∀ (k : IntKind) rd, nstep (.idx 1) [v, .int k (i : Int)] rd = some (.val (.ptr b g i))) ∧ H[b]? = some (.cells g false (cI zs)) ∧ blkOf v = some b ∧ setAt (cI zs) i [.int .i64 x] = cI (zs.set i x) ∧ i + 1 ≤ (cI zs).length ∧ OwnI nl P (H.set b (.cells g false (cI (zs.set i x)))) v (zs.set i x) := by
  rcases h with ⟨h0, _⟩ | ⟨h0, b, g, ex, rfl, hP, hl, hb⟩
  · omega
  · refine ⟨b, g, fun k rd => ?_, hb, by simp only [blkOf]; rw [if_neg (by omega)], ?_, by rw [cI_len]; omega, .inr ⟨by simp; omega, b, g, ex, by simp, hP, by rw [cI_len]; simp, List.getElem?_set_self (lt_of_get hb)⟩⟩
    · rw [n_idx, if_pos ⟨by omega, by omega⟩]; simp
    · rw [setAt_one _ (by rw [cI_len]; exact hi), ← cI_set]
theorem own_src {nl : Bool} {P : Nat} {H : Heap} {v : AV} {xs : List Int} (h : OwnI nl P H v xs) : RdI H.length H v xs := h.rd (Nat.le_refl _)
set_option maxHeartbeats 16000000 in
theorem w_CertOwn (h : Has A (φ 115) (f115 φ)) (hS : PVal A (φ 84) [] (.bool true)) (g : O22 A φ) (v : AV) (l : List Int) (hv : IsI v l) (x : Int) :
    PVal A (φ 115) [v, .int .i64 x] (.bool true) := by
  have hsh := hS.eq
  have hlen := hv.len
  obtain ⟨v', lo, H0, s1, y1, y2, y3, y4⟩ := cutI (P := 0) (H := [Ob.cells 0 false []]) hv 30 (by omega) 0 (Nat.zero_le _)
  have hmin := minV_i (l.length : Int) 30
  have hmm : min (l.length : Int) 30 = ((min l.length 30 : Nat) : Int) := by omega
  rw [hmm] at hmin
  have hL : (l.take 30).length ≤ 30 := by simp; omega
  generalize l.take 30 = ls at *
  have q1 := Own.len y2
  have yl : OwnI false 0 (H0 ++ [.cells 0 false [.int .i64 1, .int .i64 ls.length]]) lo ls := Own.more y2 _
  obtain ⟨n1, H1, a1, a2, a3, a4⟩ := ownI_appR (own_lit false H0.length H0 (Nat.le_refl _) [1, (ls.length : Int)] (by simp) [.int .i64 1, .int .i64 ls.length] rfl 2 rfl) (own_src yl) (by simp) (by simp; omega)
  simp only [List.length_append, List.length_cons, List.length_nil] at a4
  have lo1 : OwnI false 0 H1 lo ls := Own.keep y2 fun b hb _ => by rw [a3 b hb, List.getElem?_append_left hb]
  obtain ⟨n2, H2, b1, b2, b3, b4, _⟩ := OwnI.app1 a2 1 (by omega) (by simp; omega)
  have lo2 : OwnI false 0 H2 lo ls := Own.keep lo1 fun b hb hbv => b3 b (Own.blk y2 hbv).2
  have hw := Own.vw lo2
  have va := hw.l1 (closeds_cI ls)
  simp only [rv_false] at va
  have hlb := fun b (hb : blkOf lo = some b) => (Own.blk y2 hb).2
  have hfz : frzOf H2 lo = frzH (blkOf lo).toList H2 := (frzH_toList H2 lo).symm
  have n2F : OwnI false H0.length (frzOf H2 lo) n2 ([1, (ls.length : Int)] ++ ls ++ [1]) := by
    rw [hfz]; exact own_frz b2 fun b hb => hlb b (by simpa using hb)
  have lF : (frzOf H2 lo).length = H2.length := by rw [hfz, frz_len]
  generalize frzOf H2 lo = F at *
  have hcl : (putRow ls).length = ls.length + 1 := rfl
  obtain ⟨n3, H3, c1, c2, c3, c4⟩ := ownI_appI n2F (isI_v (putRow ls)) (by omega) (by simp only [List.length_append, List.length_cons, List.length_nil]; omega)
  have heq : [1, (ls.length : Int)] ++ ls ++ [1] ++ putRow ls = putC (.pages ls [ls]) := by simp [putC, putRow, putRows]
  rw [heq] at c2
  have hnum : (putC (.pages ls [ls])).length = 2 * ls.length + 4 := by rw [← heq]; simp only [List.length_append, List.length_cons, List.length_nil]; omega
  have hcv : cvV φ (.pages ls [ls]) = .iface (φ 93) (.agg [vI ls, rR [ls]]) := rfl
  have hr1 := fun {H : Heap} {v : AV} => g.readH (H := H) (v := v) (o := ls) (c := [ls])
  have hPR := (w_PutRow g.putRow (isI_v ls) (by omega)).eq
  have hSm := (g.csame (isI_v (putC (.pages ls [ls]))) (isI_v (putC (.pages ls [ls]))) (by omega)).eq
  simp only [decide_true] at hSm
  have hIH := fun H K hK => w_IntsPagesH (A := A) (φ := φ) g.td g.ints g.crow g.crows (isI_v ls) (isRows_rR [ls]) (by omega) H K hK
  have hOH := fun H K hK => w_OrderPagesH (A := A) (φ := φ) g.order g.clone (o := ls) (isRows_rR [ls]) (by omega) H K hK
  obtain ⟨N, hN⟩ : ∃ N, putC (.pages ls [ls]) = N := ⟨_, rfl⟩
  rw [hN] at c2 hnum
  simp only [hN] at hr1 hSm hIH
  obtain ⟨wa, H4, d1, d2, d3, d4⟩ := ownI_appR (ownI_empty H3.length (H3 ++ [.cells 0 false []]) H3.length 0 0) (own_src (Own.more c2 [.cells 0 false []])) (by simp) (by simp; omega)
  rw [List.nil_append] at d2
  simp only [List.length_append, List.length_cons, List.length_nil] at d4
  have n4 : OwnI false H0.length H4 n3 N := Own.keep c2 fun b hb _ => by rw [d3 b hb, List.getElem?_append_left hb]
  have hnb := fun b (hb : blkOf n3 = some b) => (Own.blk c2 hb).2
  have hwb := fun b (hb : blkOf wa = some b) => (Own.blk d2 hb)
  have hsl : ∃ b g o n cl ex, n3 = .sl b g o n 1 cl ex := by
    rcases c2 with ⟨h0, _⟩ | ⟨_, b, g, ex, rfl, _⟩
    · omega
    · exact ⟨_, _, _, _, _, _, rfl⟩
  refine pval_has h rfl ?_
  simp only [l115_12, l115_18, l115_24, b115, f115]
  simp [-List.getD_eq_getElem?_getD, -Int.ofNat_toNat, -getElem?_pos, er115_0, er115_1, er115_2, er115_3, er115_4, er115_5, er115_6, er115_7, er115_8, er115_9, er115_10, er115_11, er115_13, er115_14, er115_15, er115_16, er115_17, er115_19, er115_20, er115_21, er115_22, er115_23, er115_25, hsh, hlen, foldV, hmin, s1, y1, q1, a1, b1, va, hPR, c1, d1]
  refine hr1 (own_src n4) hsl (fun e => by rw [e] at d4; simp at d4) (by omega) _ fun H5 k5 l5 => ?_
  simp only [hid_k]
  have n5 : OwnI false H0.length H5 n3 N := Own.keep n4 fun b hb _ => k5 b hb
  have w5 : OwnI false H3.length H5 wa N := Own.keep d2 fun b hb _ => k5 b hb
  have hVo : (cvV φ (.pages ls [ls])).one = true := (cvV_ne φ _).1
  simp [-List.getD_eq_getElem?_getD, -Int.ofNat_toNat, -getElem?_pos, er115_0, er115_1, er115_2, er115_3, er115_4, er115_5, er115_6, er115_7, er115_8, er115_9, er115_10, er115_11, er115_13, er115_14, er115_15, er115_16, er115_17, er115_19, er115_20, er115_21, er115_22, er115_23, er115_25]
  refine pc_loopI (fun m st => ∃ (i : Nat) (p14 : AV) (H : Heap) (zs : List Int), i + m = N.length ∧ zs.length = N.length ∧ OwnI false H0.length H n3 zs ∧ (∀ k, k < H5.length → blkOf n3 ≠ some k → H[k]? = H5[k]?) ∧ H5.length ≤ H.length ∧
    st = ([lo, .int .i64 x, .bool false, .bool true, n3, wa, cvV φ (.pages ls [ls]), .int .i64 0, .int .i64 i, .un, .un, .un, .un, .un, p14, .un, .un], H)) N.length
    ⟨0, _, H5, N, by simp, rfl, n5, fun _ _ _ => rfl, Nat.le_refl _, rfl⟩ ?_
  rintro m st ⟨i, p14, H, zs, hi, hz, hn, hf, hl, rfl⟩
  have nl := Own.len hn
  rw [hz] at nl
  by_cases hlt : i < N.length
  · have hlt' : (i : Int) < N.length := by omega
    have hiw := wrap1 hlt (by omega)
    obtain ⟨b, gg, e1, e2, e3, e4, e5, e6⟩ := own_set hn (i := i) (by omega) x
    simp [-List.getD_eq_getElem?_getD, -Int.ofNat_toNat, -getElem?_pos, er115_0, er115_1, er115_2, er115_3, er115_4, er115_5, er115_6, er115_7, er115_8, er115_9, er115_10, er115_11, er115_13, er115_14, er115_15, er115_16, er115_17, er115_19, er115_20, er115_21, er115_22, er115_23, er115_25, nl, hlt', hlt, e1, e2, e4, e5, hiw]
    refine next_mk (m - 1) (by omega) ⟨i + 1, _, _, _, by omega, by simp [hz], e6, fun k hk hne => ?_, by simp; omega, rfl⟩
    rw [List.getElem?_set_ne (fun e => hne (by rw [e3, e])), hf k hk hne]
  · have hlt' : ¬ (i : Int) < N.length := by omega
    have w6 : OwnI false H3.length H wa N := Own.keep w5 fun b hb hbv => hf b hb fun e => by
      have := hnb b e
      have := (hwb b hbv).1
      omega
    simp [-List.getD_eq_getElem?_getD, -Int.ofNat_toNat, -getElem?_pos, er115_0, er115_1, er115_2, er115_3, er115_4, er115_5, er115_6, er115_7, er115_8, er115_9, er115_10, er115_11, er115_13, er115_14, er115_15, er115_16, er115_17, er115_19, er115_20, er115_21, er115_22, er115_23, er115_25, nl, hlt', hlt]
    rw [hcv]
    refine hIH H _ fun av H6 ha k6 l6 => ?_
    simp only [hid_k]
    have w7 : OwnI false H3.length H6 wa N := Own.keep w6 fun b hb _ => k6 b hb
    have hwl := fun b (hb : blkOf wa = some b) => (Own.blk w6 hb).2
    simp [-List.getD_eq_getElem?_getD, -Int.ofNat_toNat, -getElem?_pos, er115_0, er115_1, er115_2, er115_3, er115_4, er115_5, er115_6, er115_7, er115_8, er115_9, er115_10, er115_11, er115_13, er115_14, er115_15, er115_16, er115_17, er115_19, er115_20, er115_21, er115_22, er115_23, er115_25]
    refine pc_loopI (fun m st => ∃ (j : Nat) (p15 : AV) (K : Heap) (zs : List Int), j + m = N.length ∧ zs.length = N.length ∧ OwnI false H.length K av zs ∧ OwnI false H3.length K wa N ∧ H6.length ≤ K.length ∧
      st = ([lo, .int .i64 x, .bool false, .bool true, n3, wa, .iface (φ 93) (.agg [vI ls, rR [ls]]), .int .i64 0, .int .i64 i, av, .int .i64 j, .un, .un, .un, .bool false, p15, .un], K)) N.length
      ⟨0, _, H6, N, by simp, rfl, ha, w7, Nat.le_refl _, rfl⟩ ?_
    rintro m2 st2 ⟨j, p15, K, zs2, hj, hz2, hn2, hw2, hl2, rfl⟩
    have nl2 := Own.len hn2
    rw [hz2] at nl2
    by_cases hlt2 : j < N.length
    · have hlt2' : (j : Int) < N.length := by omega
      have hjw := wrap1 hlt2 (by omega)
      obtain ⟨b, gg, e1, e2, e3, e4, e5, e6⟩ := own_set hn2 (i := j) (by omega) x
      simp [-List.getD_eq_getElem?_getD, -Int.ofNat_toNat, -getElem?_pos, er115_0, er115_1, er115_2, er115_3, er115_4, er115_5, er115_6, er115_7, er115_8, er115_9, er115_10, er115_11, er115_13, er115_14, er115_15, er115_16, er115_17, er115_19, er115_20, er115_21, er115_22, er115_23, er115_25, nl2, hlt2', hlt2, e1, e2, e4, e5, hjw]
      refine next_mk (m2 - 1) (by omega) ⟨j + 1, _, _, _, by omega, by simp [hz2], e6, ?_, by simp; omega, rfl⟩
      refine Own.keep hw2 fun b' hb' hbv => List.getElem?_set_ne fun e => ?_
      have h1 := hwl b' hbv
      have h2 := (Own.blk hn2 e3).1
      omega
    · have hlt2' : ¬ (j : Int) < N.length := by omega
      simp [-List.getD_eq_getElem?_getD, -Int.ofNat_toNat, -getElem?_pos, er115_0, er115_1, er115_2, er115_3, er115_4, er115_5, er115_6, er115_7, er115_8, er115_9, er115_10, er115_11, er115_13, er115_14, er115_15, er115_16, er115_17, er115_19, er115_20, er115_21, er115_22, er115_23, er115_25, nl2, hlt2', hlt2]
      refine hOH K _ fun ov H7 ho k7 l7 => ?_
      simp only [hid_k]
      have w8 : OwnI false H3.length H7 wa N := Own.keep hw2 fun b hb _ => k7 b hb
      have hwl2 := fun b (hb : blkOf wa = some b) => (Own.blk hw2 hb).2
      simp [-List.getD_eq_getElem?_getD, -Int.ofNat_toNat, -getElem?_pos, er115_0, er115_1, er115_2, er115_3, er115_4, er115_5, er115_6, er115_7, er115_8, er115_9, er115_10, er115_11, er115_13, er115_14, er115_15, er115_16, er115_17, er115_19, er115_20, er115_21, er115_22, er115_23, er115_25]
      refine pc_loopI (fun m st => ∃ (q : Nat) (p16 : AV) (M : Heap) (zs : List Int), q + m = ls.length ∧ zs.length = ls.length ∧ OwnI false K.length M ov zs ∧ OwnI false H3.length M wa N ∧ H7.length ≤ M.length ∧
        st = ([lo, .int .i64 x, .bool false, .bool true, n3, wa, .iface (φ 93) (.agg [vI ls, rR [ls]]), .int .i64 0, .int .i64 i, av, .int .i64 j, ov, .bool true, .int .i64 q, .bool false, .bool false, p16], M)) ls.length
        ⟨0, _, H7, ls, by simp, rfl, ho, w8, Nat.le_refl _, rfl⟩ ?_
      rintro m3 st3 ⟨q, p16, M, zs3, hq, hz3, hn3, hw3, hl3, rfl⟩
      have nl3 := Own.len hn3
      rw [hz3] at nl3
      by_cases hlt3 : q < ls.length
      · have hlt3' : (q : Int) < ls.length := by omega
        have hqw := wrap1 hlt3 (by omega)
        obtain ⟨b, gg, e1, e2, e3, e4, e5, e6⟩ := own_set hn3 (i := q) (by omega) x
        simp [-List.getD_eq_getElem?_getD, -Int.ofNat_toNat, -getElem?_pos, er115_0, er115_1, er115_2, er115_3, er115_4, er115_5, er115_6, er115_7, er115_8, er115_9, er115_10, er115_11, er115_13, er115_14, er115_15, er115_16, er115_17, er115_19, er115_20, er115_21, er115_22, er115_23, er115_25, nl3, hlt3', hlt3, e1, e2, e4, e5, hqw]
        refine next_mk (m3 - 1) (by omega) ⟨q + 1, _, _, _, by omega, by simp [hz3], e6, ?_, by simp; omega, rfl⟩
        refine Own.keep hw3 fun b' hb' hbv => List.getElem?_set_ne fun e => ?_
        have h1 := hwl2 b' hbv
        have h2 := (Own.blk hn3 e3).1
        omega
      · have hlt3' : ¬ (q : Int) < ls.length := by omega
        simp [-List.getD_eq_getElem?_getD, -Int.ofNat_toNat, -getElem?_pos, er115_0, er115_1, er115_2, er115_3, er115_4, er115_5, er115_6, er115_7, er115_8, er115_9, er115_10, er115_11, er115_13, er115_14, er115_15, er115_16, er115_17, er115_19, er115_20, er115_21, er115_22, er115_23, er115_25, nl3, hlt3', hlt3]
        refine hIH M _ fun rv' H8 hr k8 l8 => ?_
        simp only [hid_k]
        have w9 : OwnI false H3.length H8 wa N := Own.keep hw3 fun b hb _ => k8 b hb
        have vf := (SeesL.cons ((Own.vw hr).seesF (closeds_cI N)) (SeesL.cons ((Own.vw w9).seesF (closeds_cI N)) ((seesL_nil _).mono (by omega)) (by omega)) (by omega)).va (by omega)
        simp only [rv_false] at vf
        simp [-List.getD_eq_getElem?_getD, -Int.ofNat_toNat, -getElem?_pos, er115_0, er115_1, er115_2, er115_3, er115_4, er115_5, er115_6, er115_7, er115_8, er115_9, er115_10, er115_11, er115_13, er115_14, er115_15, er115_16, er115_17, er115_19, er115_20, er115_21, er115_22, er115_23, er115_25, vf, hSm, resK, resVs, resV, pack]
end Go.Ai.G
