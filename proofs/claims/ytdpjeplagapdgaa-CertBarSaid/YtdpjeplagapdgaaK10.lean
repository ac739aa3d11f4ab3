/- A part of what the law leans on: the abstract machine, the contracts, the rows. -/
import Derived.Test.YtdpjeplagapdgaaK9
import Derived.Test.YtdpjeplagapdgaaK4
/- ref09.Same; CertBar. -/
namespace Go.Ai.G
open Go.Ai
set_option maxRecDepth 100000
set_option linter.unusedSimpArgs false
set_option linter.unusedVariables false
variable {A : AProg} {φ : Nat → Nat}
attribute [local simp ↓] getD_z getD_s hid_k hid_o hid_q hid_v PO_nil PO_none PO_grd PD_nil PD_none PD_grd PDO_N PDO_X PDO_call PDO_calli PDO_callv PSX_N PSX_X PSX_call PSX_calli PSX_callv PSX_inv
  PSX_callp PSX_panic PDO_inv PStep_inv thenC_pan blockC_pan loopC_pan endX_ret endX_norm endX_pan PStep_N PStep_X PStep_call PStep_calli PC_skip PC_lab PC_ret PC_exit PC_reg PC_draw
  PC_seq PC_block PC_loop PC_scope PC_cond thenC_norm thenC_ret thenC_exit blockC_norm blockC_ret blockC_exit loopC_norm loopC_ret loopC_exit endR_ret endR_norm
attribute [local simp] gz PDX_free PDX_eq KI_some n_mki n_tas0 n_tasf PStep_callv resK_none resK_t resK_tt KNO_val KNO_new KNO_ite KNO_map KXO_some KXO_ite KVA_t KVA_f KG_skip KG_tt KG_ff KG_tf KG_ft
  KB_true KB_false KNOD_val KNOD_new KNOD_ite n_mv n_pick n_bin n_eqB n_eqN n_eqS n_un n_conv n_fadd n_faddV n_fld1 n_fldN n_idx n_idxA n_idxV n_idxAV n_ext n_lenS n_lenS0 n_lenV
  n_lenT n_lenA n_min n_max n_build n_mkfn n_slc n_slc0 n_slcV n_slcA n_load1 n_loadN n_load1V n_loadNV n_alloc n_box n_bsl n_mksl n_nilcP n_nilcV n_nilcI n_nilcF x_store x_clear0
  x_clear b_add b_sub b_mul b_eql b_neq b_lss b_leq b_gtr b_geq b_and16 unV ntouch gather hide unhide evalOpd applyOuts int_bne int_beq ite_bool ite_int one_bool cells_bool one_int
  cells_int one_str cells_str one_nilp cells_nilp one_ptr cells_ptr one_nils cells_nils one_sl cells_sl one_nilf cells_nilf one_fn cells_fn one_nili cells_nili one_mp cells_mp
  one_nilm cells_nilm one_iface cells_iface one_vs cells_vs one_vp cells_vp cells_agg Nat.testBit setAt_1 setAt_2 closeds_nil closeds_cons closed_bool closed_int closed_str
  closed_nilp closed_nils closed_nilm closed_nilf closed_nili closed_agg closed_tup closed_vs closed_vp closed_iface closed_fn closeds_cI closeds_cE viewA_closed viewR_closed AV.scal
  AV.scal0 fillA repA part_bool part_int part_str part_nilp part_ptr part_nils part_sl part_nilm part_mp part_nilf part_fn part_nili part_iface part_agg part_vs part_vp viewA_sl1
  vaSl_cells wrap_0 wrap_1 wrap_2 wrap_m1 set_last get_last
theorem er107_0 (φ : Nat → Nat) : r107_0 φ = [
  ⟨0, .N .box, [.n 0], none, 0⟩,
  ⟨1, .N .mv, [.c (.bool false)], none, 0⟩] := Eq.trans rfl rfl
theorem er107_1 (φ : Nat → Nat) : r107_1 φ = [
  ⟨0, .calli true (φ 84), [], none, 0⟩,
  ⟨1, .N .mv, [.l 0], none, 0⟩] := Eq.trans rfl rfl
theorem er107_2 (φ : Nat → Nat) : r107_2 φ = [
  ⟨0, .N (.fadd 0), [.n 1], none, 0⟩,
  ⟨1, .N .load1, [.l 0], none, 1⟩,
  ⟨2, .N (.bsl [.int .i64 0] 0 1 []), [], none, 0⟩,
  ⟨3, .N (.fadd 1), [.n 1], none, 0⟩,
  ⟨4, .N .load1, [.l 0], none, 8⟩,
  ⟨5, .N (.fadd 1), [.n 1], none, 0⟩,
  ⟨6, .N .load1, [.l 0], none, 32⟩,
  ⟨7, .N .lenS, [.l 0], none, 96⟩,
  ⟨8, .N .min, [.l 0, .c (.int .i64 6)], none, 224⟩,
  ⟨9, .N (.slc 1 false true false), [.l 4, .l 0], none, 504⟩,
  ⟨12, .N (.alloc [.int .i64 0, .nils, .nils]), [], none, 0⟩,
  ⟨10, .X (.app 1 8), [.l 8, .l 1], none, 1020⟩,
  ⟨11, .N (.build [.int .i64 0, .nils, .nils] [(0, 1), (1, 1)]), [.l 10, .l 0], none, 3071⟩,
  ⟨13, .X (.store 3), [.l 2, .l 0], none, 8191⟩] := Eq.trans rfl rfl
theorem er107_3 (φ : Nat → Nat) : r107_3 φ = [
  ⟨0, .N .mv, [.c (.int .i64 0)], none, 0⟩] := Eq.trans rfl rfl
theorem er107_4 (φ : Nat → Nat) : r107_4 φ = [
  ⟨0, .N .mv, [.n 5], none, 0⟩,
  ⟨1, .N (.fadd 2), [.n 1], none, 0⟩,
  ⟨2, .N .load1, [.l 0], none, 0⟩,
  ⟨3, .N .lenS, [.l 0], none, 0⟩,
  ⟨4, .N (.bin .lss), [.l 3, .l 0], none, 0⟩,
  ⟨5, .N .mv, [.l 0], none, 0⟩,
  ⟨6, .N .mv, [.n 5], some (.l 0, true), 0⟩,
  ⟨7, .N (.bin .lss), [.l 0, .c (.int .i64 8)], some (.l 1, true), 0⟩,
  ⟨8, .N .pick, [.l 2, .l 0, .c (.bool false)], none, 0⟩] := Eq.trans rfl rfl
theorem er107_5 (φ : Nat → Nat) : r107_5 φ = [
  ⟨0, .N (.fadd 2), [.n 4], none, 0⟩,
  ⟨1, .N .load1, [.l 0], none, 1⟩,
  ⟨2, .N (.bsl [.int .i64 0] 0 1 []), [], none, 0⟩,
  ⟨3, .N (.fadd 2), [.n 1], none, 0⟩,
  ⟨4, .N .load1, [.l 0], none, 8⟩,
  ⟨5, .N .mv, [.n 5], none, 0⟩,
  ⟨6, .N (.idx 1), [.l 1, .l 0], none, 56⟩,
  ⟨7, .N .load1, [.l 0], none, 120⟩,
  ⟨8, .N (.fadd 2), [.n 1], none, 0⟩,
  ⟨9, .N .load1, [.l 0], none, 256⟩,
  ⟨10, .N .mv, [.n 5], none, 0⟩,
  ⟨11, .N (.idx 1), [.l 1, .l 0], none, 1792⟩,
  ⟨12, .N .load1, [.l 0], none, 3840⟩,
  ⟨13, .N .lenS, [.l 0], none, 7936⟩,
  ⟨14, .N .min, [.l 0, .c (.int .i64 20)], none, 16128⟩,
  ⟨15, .N (.slc 1 false true false), [.l 7, .l 0], none, 32760⟩,
  ⟨16, .X (.app 1 8), [.l 13, .l 0], none, 65532⟩,
  ⟨17, .N (.bsl [.nils] 1 1 [(0, 1)]), [.l 0], none, 131068⟩,
  ⟨18, .X (.app 1 24), [.l 16, .l 0], none, 262143⟩,
  ⟨19, .N (.fadd 2), [.n 4], none, 524287⟩,
  ⟨20, .X (.store 1), [.l 0, .l 1], none, 1048575⟩] := Eq.trans rfl rfl
theorem er107_6 (φ : Nat → Nat) : r107_6 φ = [
  ⟨0, .N .mv, [.n 5], none, 0⟩,
  ⟨1, .N (.bin .add), [.l 0, .c (.int .i64 1)], none, 0⟩,
  ⟨2, .N .mv, [.l 0], none, 0⟩] := Eq.trans rfl rfl
theorem er107_8 (φ : Nat → Nat) : r107_8 φ = [
  ⟨0, .N (.loadN 3), [.n 4], none, 0⟩,
  ⟨1, .N (.build [.int .i64 0, .nils, .nils] [(0, 3)]), [.l 0], none, 0⟩,
  ⟨2, .N (.mki (φ 87)), [.l 0], none, 0⟩,
  ⟨3, .calli false (φ 99), [.l 0], none, 0⟩,
  ⟨4, .N .mv, [.l 0], none, 0⟩] := Eq.trans rfl rfl
theorem er107_9 (φ : Nat → Nat) : r107_9 φ = [
  ⟨0, .N (.fadd 0), [.n 4], none, 0⟩,
  ⟨1, .N .load1, [.l 0], none, 1⟩,
  ⟨2, .N (.bsl [.int .i64 0] 2 1 [(0, 1), (1, 1)]), [.c (.int .i64 4), .l 0], none, 3⟩,
  ⟨3, .N (.fadd 1), [.n 4], none, 0⟩,
  ⟨4, .N .load1, [.l 0], none, 8⟩,
  ⟨7, .N (.fadd 2), [.n 4], none, 0⟩,
  ⟨8, .N .load1, [.l 0], none, 32⟩,
  ⟨5, .calli false (φ 101), [.l 2], none, 24⟩,
  ⟨6, .X (.app 1 8), [.l 5, .l 0], none, 159⟩,
  ⟨9, .calli false (φ 102), [.l 2], none, 511⟩,
  ⟨10, .X (.app 1 8), [.l 1, .l 0], none, 1023⟩,
  ⟨11, .N .mv, [.l 0], none, 2047⟩] := Eq.trans rfl rfl
theorem er107_10 (φ : Nat → Nat) : r107_10 φ = [
  ⟨0, .N .mv, [.n 6], none, 0⟩,
  ⟨1, .calli false (φ 85), [.l 0], none, 0⟩,
  ⟨2, .N .mv, [.l 0], none, 0⟩,
  ⟨3, .N (.ext 0), [.l 0], none, 0⟩,
  ⟨4, .N (.ext 1), [.l 1], none, 0⟩,
  ⟨5, .N .mv, [.l 1], none, 0⟩,
  ⟨6, .N .mv, [.l 1], none, 0⟩] := Eq.trans rfl rfl
theorem er107_11 (φ : Nat → Nat) : r107_11 φ = [
  ⟨0, .N .mv, [.n 8], none, 0⟩,
  ⟨1, .calli false (φ 105), [.l 0], none, 0⟩,
  ⟨2, .N .mv, [.l 0], none, 0⟩,
  ⟨3, .N (.ext 0), [.l 0], none, 0⟩,
  ⟨4, .N (.ext 1), [.l 1], none, 0⟩,
  ⟨5, .N (.alloc [.int .i64 0, .nils, .nils]), [], none, 0⟩,
  ⟨6, .X (.store 3), [.l 0, .l 2], none, 0⟩,
  ⟨7, .N .mv, [.l 2], none, 0⟩] := Eq.trans rfl rfl
theorem er107_12 (φ : Nat → Nat) : r107_12 φ = [
  ⟨0, .N .mv, [.n 3], none, 0⟩,
  ⟨1, .N .mv, [.l 0], none, 0⟩,
  ⟨2, .N .mv, [.n 6], some (.l 0, true), 0⟩,
  ⟨3, .N .mv, [.n 7], some (.l 1, true), 0⟩,
  ⟨4, .calli true (φ 11), [.l 1, .l 0], some (.l 2, true), 0⟩,
  ⟨5, .N .pick, [.l 3, .l 0, .c (.bool false)], none, 0⟩,
  ⟨6, .N .mv, [.l 0], none, 0⟩,
  ⟨7, .N .mv, [.n 9], some (.l 0, true), 0⟩,
  ⟨8, .N (.bin .eql), [.l 0, .c (.int .i64 0)], some (.l 1, true), 0⟩,
  ⟨9, .N .pick, [.l 2, .l 0, .c (.bool false)], none, 0⟩,
  ⟨10, .N .mv, [.l 0], none, 0⟩,
  ⟨11, .N .mv, [.n 11], some (.l 0, true), 0⟩,
  ⟨12, .N (.bin .eql), [.l 0, .c (.int .i64 0)], some (.l 1, true), 0⟩,
  ⟨13, .N .pick, [.l 2, .l 0, .c (.bool false)], none, 0⟩,
  ⟨14, .N .mv, [.l 0], none, 0⟩,
  ⟨15, .N (.loadN 3), [.n 10], some (.l 0, true), 0⟩,
  ⟨16, .N (.loadN 3), [.n 4], some (.l 1, true), 0⟩,
  ⟨17, .calli true (φ 106), [.l 1, .l 0], some (.l 2, true), 0⟩,
  ⟨18, .N .pick, [.l 3, .l 0, .c (.bool false)], none, 0⟩,
  ⟨19, .N .mv, [.l 0], none, 0⟩] := Eq.trans rfl rfl
theorem er106_0 (φ : Nat → Nat) : r106_0 φ = [
  ⟨0, .N .box, [.n 0], none, 0⟩,
  ⟨1, .N .box, [.n 1], none, 0⟩,
  ⟨2, .N .mv, [.c (.bool false)], none, 0⟩] := Eq.trans rfl rfl
theorem er106_1 (φ : Nat → Nat) : r106_1 φ = [
  ⟨0, .N (.fadd 0), [.n 2], none, 0⟩,
  ⟨1, .N .load1, [.l 0], none, 0⟩,
  ⟨2, .N (.fadd 0), [.n 3], none, 0⟩,
  ⟨3, .N .load1, [.l 0], none, 0⟩,
  ⟨4, .N (.bin .eql), [.l 2, .l 0], none, 0⟩,
  ⟨5, .N .mv, [.l 0], none, 0⟩,
  ⟨6, .N (.fadd 1), [.n 2], some (.l 0, true), 0⟩,
  ⟨7, .N .load1, [.l 0], some (.l 1, true), 0⟩,
  ⟨8, .N (.fadd 1), [.n 3], some (.l 2, true), 0⟩,
  ⟨9, .N .load1, [.l 0], some (.l 3, true), 0⟩,
  ⟨10, .calli true (φ 11), [.l 2, .l 0], some (.l 4, true), 0⟩,
  ⟨11, .N .pick, [.l 5, .l 0, .c (.bool false)], none, 0⟩,
  ⟨12, .N .mv, [.l 0], none, 0⟩,
  ⟨13, .N (.fadd 2), [.n 2], some (.l 0, true), 0⟩,
  ⟨14, .N .load1, [.l 0], some (.l 1, true), 0⟩,
  ⟨15, .N (.fadd 2), [.n 3], some (.l 2, true), 0⟩,
  ⟨16, .N .load1, [.l 0], some (.l 3, true), 0⟩,
  ⟨17, .calli true (φ 70), [.l 2, .l 0], some (.l 4, true), 0⟩,
  ⟨18, .N .pick, [.l 5, .l 0, .c (.bool false)], none, 0⟩,
  ⟨19, .N .mv, [.l 0], none, 0⟩] := Eq.trans rfl rfl
structure M22 (A : AProg) (φ : Nat → Nat) : Prop extends L22 A φ where
  same09 : Has A (φ 106) (f106 φ)
theorem w_Same09 (h : Has A (φ 106) (f106 φ)) (g : K22 A φ) (k : Int) {x y x' y' : AV} {t : List Int} {p : List (List Int)} (hx : IsI x t) (hy : IsRows y p) (hx' : IsI x' t) (hy' : IsRows y' p) (hn : t.length < 1000000) (hp : p.length < 1000000) (hq : ∀ q ∈ p, q.length < 1000000) :
    PVal A (φ 106) [.agg [.int .i64 k, x, y], .agg [.int .i64 k, x', y']] (.bool true) := by
  have a1 := hx.one
  have a2 := hx.cells
  have a3 := hx.closed
  have b1 := hx'.one
  have b2 := hx'.cells
  have b3 := hx'.closed
  have c1 := hy.one
  have c2 := hy.cells
  have c3 := hy.closed
  have d1 := hy'.one
  have d2 := hy'.cells
  have d3 := hy'.closed
  have e1 := (g.csame hx hx' (by omega)).eq
  have e2 := (w_SameRows g.sameRows (fun v u xs ys hv hu hn => g.csame hv hu hn) y y' p p hy hy' hp hq).eq
  simp only [decide_true] at e1 e2
  refine pval_has h rfl ?_
  simp only [b106, f106]
  simp [-List.getD_eq_getElem?_getD, -Int.ofNat_toNat, -getElem?_pos, er106_0, er106_1, a1, a2, a3, b1, b2, b3, c1, c2, c3, d1, d2, d3, e1, e2, viewA_closed, closeds_cons, resK, resVs, resV, pack]
def cut20 (rows : List (List Int)) : List (List Int) := rows.map (·.take 20)
set_option maxHeartbeats 16000000 in
theorem w_CertBar (h : Has A (φ 107) (f107 φ)) (hS : PVal A (φ 84) [] (.bool true)) (g : M22 A φ) (k : Int) (T Pv : AV) (ts : List Int) (ps : List (List Int)) (hT : IsI T ts) (hP : IsRows Pv ps) :
    PVal A (φ 107) [.agg [.int .i64 k, T, Pv]] (.bool true) := by
  have hsh := hS.eq
  have t1 := hT.one
  have t2 := hT.cells
  have t3 := hT.len
  have p1 := hP.one
  have p2 := hP.cells
  have p3 := hP.len
  obtain ⟨v', o, H0, s1, y1, y2, y3, y4⟩ := cutI (P := 3) (H := [Ob.cells 0 false [.int .i64 k, T, Pv], Ob.cells 0 false [], Ob.dead]) hT 6 (by omega) 1 (by simp)
  have hmin := minV_i (ts.length : Int) 6
  have hmm : min (ts.length : Int) 6 = ((min ts.length 6 : Nat) : Int) := by omega
  rw [hmm] at hmin
  have q1 := Own.one y2
  have q2 := Own.cells y2
  have q3 := Own.part y2
  have z0 := y3 0 (by omega)
  have z2 := y3 2 (by omega)
  simp only [List.length_cons, List.length_nil] at y4
  obtain ⟨N0, hN0⟩ : ∃ N0, H0.length = N0 := ⟨_, rfl⟩
  have htl : (ts.take 6).length ≤ 6 := by simp; omega
  obtain ⟨tl, htd⟩ : ∃ tl, ts.take 6 = tl := ⟨_, rfl⟩
  rw [htd] at y2 htl
  have hs : (H0.set 2 (.cells 0 false [.int .i64 0, .nils, .nils])).set 2 (.cells 0 false [.int .i64 k, o, .nils]) = H0.set 2 (.cells 0 false [.int .i64 k, o, .nils]) := List.set_set _
  have hg2 : (H0.set 2 (.cells 0 false [.int .i64 0, .nils, .nils]))[2]? = some (.cells 0 false [.int .i64 0, .nils, .nils]) := List.getElem?_set_self (by omega)
  have hg0 : (H0.set 2 (.cells 0 false [.int .i64 0, .nils, .nils]))[0]? = some (.cells 0 false [.int .i64 k, T, Pv]) := by rw [List.getElem?_set_ne (by omega)]; exact z0
  have hgd : ([Ob.cells 0 false [.int .i64 k, T, Pv], Ob.cells 0 false [], Ob.cells 0 false [.int .i64 0, .nils, .nils]] : List Ob).getD 2 Ob.dead = .cells 0 false [.int .i64 0, .nils, .nils] := rfl
  obtain ⟨Hs, hHs⟩ : ∃ Hs, H0.set 2 (.cells 0 false [.int .i64 k, o, .nils]) = Hs := ⟨_, rfl⟩
  have e0 : Hs[0]? = some (.cells 0 false [.int .i64 k, T, Pv]) := by rw [← hHs, List.getElem?_set_ne (by omega)]; exact z0
  have e2 : Hs[2]? = some (.cells 0 false [.int .i64 k, o, .nils]) := by rw [← hHs]; exact List.getElem?_set_self (by omega)
  have eo : OwnI false 3 Hs o tl := by
    rw [← hHs]
    exact Own.keep y2 fun b hb hbv => List.getElem?_set_ne (by have := (Own.blk y2 hbv).1; omega)
  have eN : Hs.length = N0 := by rw [← hHs]; simp [hN0]
  rw [hHs] at hs
  refine pval_has h rfl ?_
  simp only [l107_7, b107, f107]
  simp [-List.getD_eq_getElem?_getD, -Int.ofNat_toNat, -getElem?_pos, er107_0, er107_1, er107_2, er107_3, er107_4, er107_5, er107_6, er107_8, er107_9, er107_10, er107_11, er107_12, hsh, t1, t2, t3, p1, p2, foldV, hmin, s1, y1, q1, q2, q3, z0, z2, hgd, hg0, hg2, setAt, hs]
  refine pc_loopI (fun m st => ∃ (i : Nat) (pv p12 : AV) (H : Heap), i + m = min ps.length 8 ∧ H[0]? = some (.cells 0 false [.int .i64 k, T, Pv]) ∧ H[2]? = some (.cells 0 false [.int .i64 k, o, pv]) ∧ OwnI false 3 H o tl ∧ (∀ b, blkOf o = some b → b < N0) ∧ N0 ≤ H.length ∧ OwnR true N0 H pv (cut20 (ps.take i)) ∧
    st = ([.agg [.int .i64 k, T, Pv], .ptr 0 0 0, .bool false, .bool true, .ptr 2 0 0, .int .i64 i, .un, .un, .un, .un, .un, .un, p12], H)) (min ps.length 8)
    ⟨0, .nils, _, Hs, by simp, e0, e2, eo, fun b hb => by have := (Own.blk eo hb).2; omega, by omega, ownR_nil _ _, rfl⟩ ?_
  rintro m st ⟨i, pv, p12, H, hi, f0, f2, fo, fb, fN, fp, rfl⟩
  have hlt0 := lt_of_get f0
  have hN3 : 3 ≤ N0 := by omega
  have w1 := fp.one
  have w2 := fp.cells
  have w3 := fp.part
  by_cases hlt : i < ps.length
  · have hlt' : (i : Int) < ps.length := by omega
    by_cases h8 : i < 8
    · have h8' : (i : Int) < 8 := by omega
      have hiw := wrap1 h8 (by omega)
      obtain ⟨c, x, a1, a2, a3⟩ := hP.at hlt
      have xl := a3.len
      have x1 := a3.one
      obtain ⟨v2, o2, H2, r1, r2, r3, r4, r5⟩ := cutI (P := H.length) (H := H ++ [Ob.cells 0 false []]) a3 20 (by omega) H.length (by simp)
      have hmin2 := minV_i (ps[i].length : Int) 20
      have hmm2 : min (ps[i].length : Int) 20 = ((min ps[i].length 20 : Nat) : Int) := by omega
      rw [hmm2] at hmin2
      have f0' : (H ++ [Ob.cells 0 false []])[0]? = some (.cells 0 false [.int .i64 k, T, Pv]) := (List.getElem?_append_left hlt0).trans f0
      have k0 : H2[0]? = some (.cells 0 false [.int .i64 k, T, Pv]) := (r4 0 hlt0).trans f0'
      have k2 : H2[2]? = some (.cells 0 false [.int .i64 k, o, pv]) := (r4 2 (lt_of_get f2)).trans ((List.getElem?_append_left (lt_of_get f2)).trans f2)
      have f2' : (H ++ [Ob.cells 0 false []])[2]? = some (.cells 0 false [.int .i64 k, o, pv]) := (List.getElem?_append_left (lt_of_get f2)).trans f2
      simp only [List.length_append, List.length_cons, List.length_nil] at r5
      have hct : cut20 (ps.take i) ++ [ps[i].take 20] = cut20 (ps.take (i + 1)) := by unfold cut20; rw [List.take_succ_eq_append_getElem hlt, List.map_append]; rfl
      have fp' : OwnR true N0 H2 pv (cut20 (ps.take i)) := fp.keep (fun b _ hb => by rw [r4 b hb, List.getElem?_append_left hb]) (by omega)
      obtain ⟨o3, H3, u1, u2, u3, u4, u5, u6⟩ := fp'.app1 (Own.vw r3) (fun b hbl => by
        obtain ⟨b1, b2⟩ := Own.blk r3 hbl
        refine ⟨by omega, b2, fun e => ?_⟩
        have := (fp.blk e).2
        omega) (by omega) (by simp [cut20]; omega)
      rw [hct] at u2
      have m0 := (u3 0 (by omega)).trans k0
      have m2 := (u3 2 (by omega)).trans k2
      simp [-List.getD_eq_getElem?_getD, -Int.ofNat_toNat, -getElem?_pos, er107_0, er107_1, er107_2, er107_3, er107_4, er107_5, er107_6, er107_8, er107_9, er107_10, er107_11, er107_12, p3, f0, f2, w1, w2, w3, hlt', hlt, h8', h8, a1, a2, xl, x1, foldV, hmin2, r1, r2, f0', f2', k0, k2, Own.one r3, Own.cells r3, Own.part r3, u1, u5, u6, m0, m2, setAt, hiw]
      refine next_mk (m - 1) (by omega) ⟨i + 1, o3, _, _, by omega, by rw [List.getElem?_set_ne (by omega)]; exact m0, List.getElem?_set_self (by omega), ?_, fb, by simp; omega, u2.keep (fun b hb _ => List.getElem?_set_ne (by omega)) (by simp), rfl⟩
      refine Own.keep fo fun b hb hbv => ?_
      have hb3 := (Own.blk fo hbv).1
      have hbN := fb b hbv
      rw [List.getElem?_set_ne (by omega), u3 b (by omega), r4 b (by omega), List.getElem?_append_left hb]
    · have h8' : ¬ (i : Int) < 8 := by omega
      obtain ⟨pl, hpl⟩ : ∃ pl, cut20 (ps.take i) = pl := ⟨_, rfl⟩
      have hcl : pl.length ≤ 8 := by rw [← hpl]; simp [cut20]; omega
      have hce : ∀ c ∈ pl, c.length ≤ 20 := by
        intro c hc
        rw [← hpl] at hc
        unfold cut20 at hc
        obtain ⟨q, _, rfl⟩ := List.mem_map.1 hc
        simp; omega
      have hce2 : ∀ ds : List (List Int), (∀ c ∈ ds, c.length ≤ 20) → (ds.flatMap putRow).length ≤ ds.length * 21 := by
        intro ds
        induction ds with
        | nil => intro _; simp
        | cons d ds ih =>
          intro hd
          have h1 := ih fun c hc => hd c (List.mem_cons_of_mem _ hc)
          have h2 := hd d List.mem_cons_self
          simp only [List.flatMap_cons, List.length_append, List.length_cons, putRow]
          omega
      have hpr : (putRows pl).length ≤ 200 := by
        have := hce2 pl hce
        simp only [putRows, List.length_cons]; omega
      rw [hpl] at fp
      obtain ⟨bs2, hb2, sAll⟩ := OwnR.all fp
      have sOne : ∀ K, Gr H K → SeesF 2 K o (vI tl) (blkOf o).toList := fun K gK => by
        have := ((Own.vw fo).gr gK).seesF (closeds_cI tl)
        simpa [rv] using this
      have hb1 : ∀ b ∈ (blkOf o).toList, 3 ≤ b ∧ b < H.length := fun b hb => Own.blk fo (by simpa using hb)
      have eqB : putC (.bar k tl pl) = [4, k] ++ putRow tl ++ putRows pl := by simp [putC]
      have lR : (putRow tl).length = tl.length + 1 := rfl
      have c1 := (g.cints (.bar k (isI_v tl) (isRows_rR pl)) (by rw [eqB]; simp only [List.length_append, List.length_cons, List.length_nil]; omega)).eq
      have c4 := (w_PutRow g.putRow (isI_v tl) (by omega)).eq
      have c5 := (w_PutRows g.putRows g.putRow (isRows_rR pl) (by omega)).eq
      have r1 := (g.cread (isI_v (putC (.bar k tl pl))) (by rw [eqB]; simp only [List.length_append, List.length_cons, List.length_nil]; omega)).eq
      have hr1 : readR (putC (.bar k tl pl)) = some (.bar k tl pl) := (readR_put _ _).2 ⟨rfl, trivial⟩
      rw [hr1, readE_ok hr1] at r1
      have d1 := (g.csub (.bar k tl pl) (by rw [eqB]; simp only [List.length_append, List.length_cons, List.length_nil]; omega)).eq
      have s1' := (g.csame (isI_v (putC (.bar k tl pl))) (isI_v (putC (.bar k tl pl))) (by rw [eqB]; simp only [List.length_append, List.length_cons, List.length_nil]; omega)).eq
      have s2' := (w_Same09 g.same09 g.toK22 k (isI_v tl) (isRows_rR pl) (isI_v tl) (isRows_rR pl) (by omega) (by omega) (fun q hq => by have := hce q hq; omega)).eq
      simp only [decide_true] at s1'
      have nilL := fun K => (seesL_nil K)
      have vB : viewA H [.iface (φ 87) (.agg [.int .i64 k, o, pv])] = some ([.iface (φ 87) (.agg [.int .i64 k, vI tl, rR pl])], _) := (SeesL.cons (SeesF.iface (SeesL.agg (SeesL.cons ((seesF_closed rfl).mono (e := 4) (by omega)) (SeesL.cons ((sOne H (Gr.refl H)).mono (by omega)) (SeesL.cons (sAll H (Gr.refl H)) ((nilL _).mono (by omega)) (by omega)) (by omega)) (by omega))) _) ((nilL _).mono (by omega)) (by omega)).va (by omega)
      obtain ⟨K1, hK1⟩ : ∃ K1, K1 = frzH ([] ++ ((blkOf o).toList ++ (bs2 ++ [])) ++ []) H := ⟨_, rfl⟩
      rw [← hK1] at vB
      have g1 : Gr H K1 := by rw [hK1]; exact (Gr.refl H).frz _
      have l1 : K1.length = H.length := by rw [hK1, frz_len]
      have n1 : K1[2]? = some (.cells 0 false [.int .i64 k, o, pv]) := by
        rw [hK1, frz_out _ fun hm => ?_]
        · exact f2
        · simp only [List.nil_append, List.append_nil, List.mem_append] at hm
          rcases hm with hm | hm
          · have := (hb1 2 hm).1; omega
          · have := (hb2 2 hm).2; omega
      have n1d : (K1 ++ [Ob.dead])[2]? = some (.cells 0 false [.int .i64 k, o, pv]) := (List.getElem?_append_left (lt_of_get n1)).trans n1
      have n1c : (K1 ++ [Ob.cells 0 false [.int .i64 4, .int .i64 k]])[2]? = some (.cells 0 false [.int .i64 k, o, pv]) := (List.getElem?_append_left (lt_of_get n1)).trans n1
      have vOne : ∀ K, Gr H K → viewA K [o] = some ([vI tl], frzH ((blkOf o).toList ++ []) K) := fun K gK => (SeesL.cons (sOne K gK) ((nilL _).mono (by omega)) (by omega)).va (by omega)
      have vAll : ∀ K, Gr H K → viewA K [pv] = some ([rR pl], frzH (bs2 ++ []) K) := fun K gK => (SeesL.cons (sAll K gK) ((nilL _).mono (by omega)) (by omega)).va (by omega)
      have v4 := vOne _ (g1.app [Ob.dead])
      obtain ⟨K3, hK3⟩ : ∃ K3, K3 = frzH ((blkOf o).toList ++ []) (K1 ++ [Ob.dead]) := ⟨_, rfl⟩
      rw [← hK3] at v4
      have l3 : K3.length = K1.length + 1 := by rw [hK3, frz_len]; simp
      have g3 : Gr H K3 := by rw [hK3]; exact (g1.app _).frz _
      have n3 : K3[2]? = some (.cells 0 false [.int .i64 k, o, pv]) := by
        rw [hK3, frz_out _ fun hm => ?_]
        · exact n1d
        · rw [List.append_nil] at hm
          have := (hb1 2 hm).1; omega
      obtain ⟨K4, hK4⟩ : ∃ K4, K4 = K3.set K1.length (.cells 0 false [.int .i64 4, .int .i64 k]) := ⟨_, rfl⟩
      have hgk : List.getD (K1 ++ [Ob.cells 0 false [.int .i64 4, .int .i64 k]]) K1.length Ob.dead = .cells 0 false [.int .i64 4, .int .i64 k] := by rw [List.getD_eq_getElem?_getD, get_at0]; rfl
      have g4 : Gr H K4 := by
        rw [hK4]
        exact g3.keepP (P := H.length) (Nat.le_refl _) fun b hb => List.getElem?_set_ne (by omega)
      have l4 : K4.length = K1.length + 1 := by rw [hK4]; simp [l3]
      have n4 : K4[2]? = some (.cells 0 false [.int .i64 k, o, pv]) := by rw [hK4, List.getElem?_set_ne (by omega)]; exact n3
      have w4 : OwnI false K1.length K4 (.sl K1.length 0 0 2 1 2 true) [4, k] := .inr ⟨by simp, K1.length, 0, true, rfl, Nat.le_refl _, rfl, by rw [hK4, List.getElem?_set_self (by omega)]; rfl⟩
      obtain ⟨o5, K5, x5, w5, k5, l5⟩ := ownI_appI w4 (isI_v (putRow tl)) (by omega) (by simp; omega)
      have g5 : Gr H K5 := g4.keepP (by omega) k5
      have n5 : K5[2]? = some (.cells 0 false [.int .i64 k, o, pv]) := (k5 2 (by omega)).trans n4
      have v6 := vAll _ g5
      obtain ⟨o7, K7, x7, w7, g7, l7⟩   := app_frz (bs := bs2 ++ []) w5 (by omega) g5 (fun b hb => by rw [List.append_nil] at hb; exact (hb2 b hb).1) (isI_v (putRows pl)) (by omega) (by simp only [List.length_append, List.length_cons, List.length_nil]; omega)
      obtain ⟨K6, hK6⟩ : ∃ K6, K6 = frzH (bs2 ++ []) K5 := ⟨_, rfl⟩
      rw [← hK6] at v6 x7
      rw [← eqB] at w7
      obtain ⟨ro7, n7⟩ := g7 _ _ _ _ f2
      have n7a : ∀ J, (K7 ++ J)[2]? = some (.cells 0 ro7 [.int .i64 k, o, pv]) := fun J => (List.getElem?_append_left (lt_of_get n7)).trans n7
      have hw7 : ∀ J, Vw false (K7 ++ J) o7 1 (putC (.bar k tl pl)).length (cI (putC (.bar k tl pl))) := fun J => Own.vw (Own.more w7 J)
      have v8 := fun J => (hw7 J).r2 (closeds_cI _) (vI (putC (.bar k tl pl))) (isI_v _).closed
      have v9 : ∀ J, viewA (K7 ++ J) [.agg [.int .i64 k, vI tl, rR pl], .agg [.int .i64 k, o, pv]] = some ([.agg [.int .i64 k, vI tl, rR pl], .agg [.int .i64 k, vI tl, rR pl]], _) := fun J => (SeesL.cons ((seesF_closed (by simp [closed_agg, closeds_cons, (isI_v tl).closed, rR_closed, closed_int, closeds_nil])).mono (e := 6) (by omega)) (SeesL.cons ((SeesL.agg (SeesL.cons ((seesF_closed rfl).mono (e := 4) (by omega)) (SeesL.cons ((sOne _ (g7.app J)).mono (by omega)) (SeesL.cons (sAll _ (g7.app J)) ((nilL _).mono (by omega)) (by omega)) (by omega)) (by omega))).mono (by omega)) ((nilL _).mono (by omega)) (by omega)) (by omega)).va (by omega)
      simp only [rv_false] at v8
      simp only [subV, cvO, cvV] at d1 r1
      have t4 := cvV_closed φ (.bar k tl pl)
      simp only [cvV] at t4
      have u1 := fun K : Heap => viewA_closed (H := K) (vs := [vI (putC (.bar k tl pl))]) (by rw [closeds_cons, (isI_v (putC (.bar k tl pl))).closed]; rfl)
      have u2 := fun K : Heap => viewA_closed (H := K) (vs := [.iface (φ 87) (.agg [.int .i64 k, vI tl, rR pl])]) (by rw [closeds_cons, t4]; rfl)
      have b1 := rR_one pl
      have b2 := rR_cells pl
      have b3 := rR_part pl
      have b4 := (isI_v tl).one
      have b5 := (isI_v tl).cells
      generalize putC (.bar k tl pl) = P1 at *
      generalize rR pl = RR at *
      generalize putRow tl = PR at *
      generalize putRows pl = PRS at *
      generalize vI tl = TT at *
      simp [-List.getD_eq_getElem?_getD, -Int.ofNat_toNat, -getElem?_pos, er107_0, er107_1, er107_2, er107_3, er107_4, er107_5, er107_6, er107_8, er107_9, er107_10, er107_11, er107_12, p3, f0, f2, w1, w2, w3, q1, q2, q3, hlt', hlt, h8', h8, vB, c1, n1, n1d, n1c, v4, c4, n3, hgk, hK4.symm, n4, x5, n5, v6, c5, x7, u1, u2, r1, d1, b1, b2, b3, b4, b5, n7, n7a, v8, v9, s1', s2', setAt, get_at, get_at0, set_at, set_at0, resK, resVs, resV, pack]
  · have hlt' : ¬ (i : Int) < ps.length := by omega
    have h8 : True := trivial
    have h8' : True := trivial
    obtain ⟨pl, hpl⟩ : ∃ pl, cut20 (ps.take i) = pl := ⟨_, rfl⟩
    have hcl : pl.length ≤ 8 := by rw [← hpl]; simp [cut20]; omega
    have hce : ∀ c ∈ pl, c.length ≤ 20 := by
      intro c hc
      rw [← hpl] at hc
      unfold cut20 at hc
      obtain ⟨q, _, rfl⟩ := List.mem_map.1 hc
      simp; omega
    have hce2 : ∀ ds : List (List Int), (∀ c ∈ ds, c.length ≤ 20) → (ds.flatMap putRow).length ≤ ds.length * 21 := by
      intro ds
      induction ds with
      | nil => intro _; simp
      | cons d ds ih =>
        intro hd
        have h1 := ih fun c hc => hd c (List.mem_cons_of_mem _ hc)
        have h2 := hd d List.mem_cons_self
        simp only [List.flatMap_cons, List.length_append, List.length_cons, putRow]
        omega
    have hpr : (putRows pl).length ≤ 200 := by
      have := hce2 pl hce
      simp only [putRows, List.length_cons]; omega
    rw [hpl] at fp
    obtain ⟨bs2, hb2, sAll⟩ := OwnR.all fp
    have sOne : ∀ K, Gr H K → SeesF 2 K o (vI tl) (blkOf o).toList := fun K gK => by
      have := ((Own.vw fo).gr gK).seesF (closeds_cI tl)
      simpa [rv] using this
    have hb1 : ∀ b ∈ (blkOf o).toList, 3 ≤ b ∧ b < H.length := fun b hb => Own.blk fo (by simpa using hb)
    have eqB : putC (.bar k tl pl) = [4, k] ++ putRow tl ++ putRows pl := by simp [putC]
    have lR : (putRow tl).length = tl.length + 1 := rfl
    have c1 := (g.cints (.bar k (isI_v tl) (isRows_rR pl)) (by rw [eqB]; simp only [List.length_append, List.length_cons, List.length_nil]; omega)).eq
    have c4 := (w_PutRow g.putRow (isI_v tl) (by omega)).eq
    have c5 := (w_PutRows g.putRows g.putRow (isRows_rR pl) (by omega)).eq
    have r1 := (g.cread (isI_v (putC (.bar k tl pl))) (by rw [eqB]; simp only [List.length_append, List.length_cons, List.length_nil]; omega)).eq
    have hr1 : readR (putC (.bar k tl pl)) = some (.bar k tl pl) := (readR_put _ _).2 ⟨rfl, trivial⟩
    rw [hr1, readE_ok hr1] at r1
    have d1 := (g.csub (.bar k tl pl) (by rw [eqB]; simp only [List.length_append, List.length_cons, List.length_nil]; omega)).eq
    have s1' := (g.csame (isI_v (putC (.bar k tl pl))) (isI_v (putC (.bar k tl pl))) (by rw [eqB]; simp only [List.length_append, List.length_cons, List.length_nil]; omega)).eq
    have s2' := (w_Same09 g.same09 g.toK22 k (isI_v tl) (isRows_rR pl) (isI_v tl) (isRows_rR pl) (by omega) (by omega) (fun q hq => by have := hce q hq; omega)).eq
    simp only [decide_true] at s1'
    have nilL := fun K => (seesL_nil K)
    have vB : viewA H [.iface (φ 87) (.agg [.int .i64 k, o, pv])] = some ([.iface (φ 87) (.agg [.int .i64 k, vI tl, rR pl])], _) := (SeesL.cons (SeesF.iface (SeesL.agg (SeesL.cons ((seesF_closed rfl).mono (e := 4) (by omega)) (SeesL.cons ((sOne H (Gr.refl H)).mono (by omega)) (SeesL.cons (sAll H (Gr.refl H)) ((nilL _).mono (by omega)) (by omega)) (by omega)) (by omega))) _) ((nilL _).mono (by omega)) (by omega)).va (by omega)
    obtain ⟨K1, hK1⟩ : ∃ K1, K1 = frzH ([] ++ ((blkOf o).toList ++ (bs2 ++ [])) ++ []) H := ⟨_, rfl⟩
    rw [← hK1] at vB
    have g1 : Gr H K1 := by rw [hK1]; exact (Gr.refl H).frz _
    have l1 : K1.length = H.length := by rw [hK1, frz_len]
    have n1 : K1[2]? = some (.cells 0 false [.int .i64 k, o, pv]) := by
      rw [hK1, frz_out _ fun hm => ?_]
      · exact f2
      · simp only [List.nil_append, List.append_nil, List.mem_append] at hm
        rcases hm with hm | hm
        · have := (hb1 2 hm).1; omega
        · have := (hb2 2 hm).2; omega
    have n1d : (K1 ++ [Ob.dead])[2]? = some (.cells 0 false [.int .i64 k, o, pv]) := (List.getElem?_append_left (lt_of_get n1)).trans n1
    have n1c : (K1 ++ [Ob.cells 0 false [.int .i64 4, .int .i64 k]])[2]? = some (.cells 0 false [.int .i64 k, o, pv]) := (List.getElem?_append_left (lt_of_get n1)).trans n1
    have vOne : ∀ K, Gr H K → viewA K [o] = some ([vI tl], frzH ((blkOf o).toList ++ []) K) := fun K gK => (SeesL.cons (sOne K gK) ((nilL _).mono (by omega)) (by omega)).va (by omega)
    have vAll : ∀ K, Gr H K → viewA K [pv] = some ([rR pl], frzH (bs2 ++ []) K) := fun K gK => (SeesL.cons (sAll K gK) ((nilL _).mono (by omega)) (by omega)).va (by omega)
    have v4 := vOne _ (g1.app [Ob.dead])
    obtain ⟨K3, hK3⟩ : ∃ K3, K3 = frzH ((blkOf o).toList ++ []) (K1 ++ [Ob.dead]) := ⟨_, rfl⟩
    rw [← hK3] at v4
    have l3 : K3.length = K1.length + 1 := by rw [hK3, frz_len]; simp
    have g3 : Gr H K3 := by rw [hK3]; exact (g1.app _).frz _
    have n3 : K3[2]? = some (.cells 0 false [.int .i64 k, o, pv]) := by
      rw [hK3, frz_out _ fun hm => ?_]
      · exact n1d
      · rw [List.append_nil] at hm
        have := (hb1 2 hm).1; omega
    obtain ⟨K4, hK4⟩ : ∃ K4, K4 = K3.set K1.length (.cells 0 false [.int .i64 4, .int .i64 k]) := ⟨_, rfl⟩
    have hgk : List.getD (K1 ++ [Ob.cells 0 false [.int .i64 4, .int .i64 k]]) K1.length Ob.dead = .cells 0 false [.int .i64 4, .int .i64 k] := by rw [List.getD_eq_getElem?_getD, get_at0]; rfl
    have g4 : Gr H K4 := by
      rw [hK4]
      exact g3.keepP (P := H.length) (Nat.le_refl _) fun b hb => List.getElem?_set_ne (by omega)
    have l4 : K4.length = K1.length + 1 := by rw [hK4]; simp [l3]
    have n4 : K4[2]? = some (.cells 0 false [.int .i64 k, o, pv]) := by rw [hK4, List.getElem?_set_ne (by omega)]; exact n3
    have w4 : OwnI false K1.length K4 (.sl K1.length 0 0 2 1 2 true) [4, k] := .inr ⟨by simp, K1.length, 0, true, rfl, Nat.le_refl _, rfl, by rw [hK4, List.getElem?_set_self (by omega)]; rfl⟩
    obtain ⟨o5, K5, x5, w5, k5, l5⟩ := ownI_appI w4 (isI_v (putRow tl)) (by omega) (by simp; omega)
    have g5 : Gr H K5 := g4.keepP (by omega) k5
    have n5 : K5[2]? = some (.cells 0 false [.int .i64 k, o, pv]) := (k5 2 (by omega)).trans n4
    have v6 := vAll _ g5
    obtain ⟨o7, K7, x7, w7, g7, l7⟩   := app_frz (bs := bs2 ++ []) w5 (by omega) g5 (fun b hb => by rw [List.append_nil] at hb; exact (hb2 b hb).1) (isI_v (putRows pl)) (by omega) (by simp only [List.length_append, List.length_cons, List.length_nil]; omega)
    obtain ⟨K6, hK6⟩ : ∃ K6, K6 = frzH (bs2 ++ []) K5 := ⟨_, rfl⟩
    rw [← hK6] at v6 x7
    rw [← eqB] at w7
    obtain ⟨ro7, n7⟩ := g7 _ _ _ _ f2
    have n7a : ∀ J, (K7 ++ J)[2]? = some (.cells 0 ro7 [.int .i64 k, o, pv]) := fun J => (List.getElem?_append_left (lt_of_get n7)).trans n7
    have hw7 : ∀ J, Vw false (K7 ++ J) o7 1 (putC (.bar k tl pl)).length (cI (putC (.bar k tl pl))) := fun J => Own.vw (Own.more w7 J)
    have v8 := fun J => (hw7 J).r2 (closeds_cI _) (vI (putC (.bar k tl pl))) (isI_v _).closed
    have v9 : ∀ J, viewA (K7 ++ J) [.agg [.int .i64 k, vI tl, rR pl], .agg [.int .i64 k, o, pv]] = some ([.agg [.int .i64 k, vI tl, rR pl], .agg [.int .i64 k, vI tl, rR pl]], _) := fun J => (SeesL.cons ((seesF_closed (by simp [closed_agg, closeds_cons, (isI_v tl).closed, rR_closed, closed_int, closeds_nil])).mono (e := 6) (by omega)) (SeesL.cons ((SeesL.agg (SeesL.cons ((seesF_closed rfl).mono (e := 4) (by omega)) (SeesL.cons ((sOne _ (g7.app J)).mono (by omega)) (SeesL.cons (sAll _ (g7.app J)) ((nilL _).mono (by omega)) (by omega)) (by omega)) (by omega))).mono (by omega)) ((nilL _).mono (by omega)) (by omega)) (by omega)).va (by omega)
    simp only [rv_false] at v8
    simp only [subV, cvO, cvV] at d1 r1
    have t4 := cvV_closed φ (.bar k tl pl)
    simp only [cvV] at t4
    have u1 := fun K : Heap => viewA_closed (H := K) (vs := [vI (putC (.bar k tl pl))]) (by rw [closeds_cons, (isI_v (putC (.bar k tl pl))).closed]; rfl)
    have u2 := fun K : Heap => viewA_closed (H := K) (vs := [.iface (φ 87) (.agg [.int .i64 k, vI tl, rR pl])]) (by rw [closeds_cons, t4]; rfl)
    have b1 := rR_one pl
    have b2 := rR_cells pl
    have b3 := rR_part pl
    have b4 := (isI_v tl).one
    have b5 := (isI_v tl).cells
    generalize putC (.bar k tl pl) = P1 at *
    generalize rR pl = RR at *
    generalize putRow tl = PR at *
    generalize putRows pl = PRS at *
    generalize vI tl = TT at *
    simp [-List.getD_eq_getElem?_getD, -Int.ofNat_toNat, -getElem?_pos, er107_0, er107_1, er107_2, er107_3, er107_4, er107_5, er107_6, er107_8, er107_9, er107_10, er107_11, er107_12, p3, f0, f2, w1, w2, w3, q1, q2, q3, hlt', hlt, h8', h8, vB, c1, n1, n1d, n1c, v4, c4, n3, hgk, hK4.symm, n4, x5, n5, v6, c5, x7, u1, u2, r1, d1, b1, b2, b3, b4, b5, n7, n7a, v8, v9, s1', s2', setAt, get_at, get_at0, set_at, set_at0, resK, resVs, resV, pack]
end Go.Ai.G
