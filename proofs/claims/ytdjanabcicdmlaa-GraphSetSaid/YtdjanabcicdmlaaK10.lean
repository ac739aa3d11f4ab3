/- A part of what the law leans on: the abstract machine, the contracts, the rows. -/
import Derived.Test.YtdjanabcicdmlaaK9
namespace Go.Ai.G
open Go.Ai
set_option maxRecDepth 100000
set_option linter.unusedSimpArgs false
set_option linter.unusedVariables false
variable {A : AProg} {φ : Nat → Nat}
theorem er10_0 (φ : Nat → Nat) : r10_0 φ = [
  ⟨0, .N .box, [.n 0], none, 0⟩,
  ⟨1, .N .mv, [.c (.nils)], none, 0⟩] := Eq.trans rfl rfl
theorem er10_1 (φ : Nat → Nat) : r10_1 φ = [
  ⟨0, .N (.bsl [.int .i64 0] 0 1 []), [], none, 0⟩,
  ⟨1, .N .mv, [.l 0], none, 0⟩] := Eq.trans rfl rfl
theorem er10_2 (φ : Nat → Nat) : r10_2 φ = [
  ⟨0, .N (.loadN 2), [.n 2], none, 0⟩,
  ⟨1, .calli true (φ 6), [.l 0], none, 0⟩,
  ⟨2, .N (.un .not), [.l 0], none, 0⟩] := Eq.trans rfl rfl
theorem er10_3 (φ : Nat → Nat) : r10_3 φ = [
  ⟨0, .N .mv, [.n 4], none, 0⟩,
  ⟨1, .N .mv, [.l 0], none, 0⟩] := Eq.trans rfl rfl
theorem er10_4 (φ : Nat → Nat) : r10_4 φ = [
  ⟨0, .N .mv, [.c (.int .i64 0)], none, 0⟩] := Eq.trans rfl rfl
theorem er10_5 (φ : Nat → Nat) : r10_5 φ = [
  ⟨0, .N .mv, [.n 5], none, 0⟩,
  ⟨1, .N (.fadd 1), [.n 2], none, 0⟩,
  ⟨2, .N .load1, [.l 0], none, 0⟩,
  ⟨3, .N .lenS, [.l 0], none, 0⟩,
  ⟨4, .N (.bin .lss), [.l 3, .l 0], none, 0⟩] := Eq.trans rfl rfl
theorem er10_6 (φ : Nat → Nat) : r10_6 φ = [
  ⟨0, .N (.fadd 1), [.n 2], none, 0⟩,
  ⟨1, .N .load1, [.l 0], none, 0⟩,
  ⟨2, .N .mv, [.n 5], none, 0⟩,
  ⟨3, .N (.idx 2), [.l 1, .l 0], none, 0⟩,
  ⟨4, .N (.fadd 0), [.l 0], none, 0⟩,
  ⟨5, .N .load1, [.l 0], none, 0⟩,
  ⟨6, .N .mv, [.n 1], none, 0⟩,
  ⟨7, .N (.bin .eql), [.l 1, .l 0], none, 0⟩] := Eq.trans rfl rfl
theorem er10_7 (φ : Nat → Nat) : r10_7 φ = [
  ⟨0, .N .mv, [.n 4], none, 0⟩,
  ⟨1, .N (.fadd 1), [.n 2], none, 0⟩,
  ⟨2, .N .load1, [.l 0], none, 0⟩,
  ⟨3, .N .mv, [.n 5], none, 0⟩,
  ⟨4, .N (.idx 2), [.l 1, .l 0], none, 0⟩,
  ⟨5, .N (.fadd 1), [.l 0], none, 0⟩,
  ⟨6, .N .load1, [.l 0], none, 0⟩,
  ⟨7, .N (.bsl [.int .i64 0] 1 1 [(0, 1)]), [.l 0], none, 0⟩,
  ⟨8, .X (.app 1 8), [.l 7, .l 0], none, 0⟩,
  ⟨9, .N .mv, [.l 0], none, 0⟩] := Eq.trans rfl rfl
theorem er10_8 (φ : Nat → Nat) : r10_8 φ = [
  ⟨0, .N (.fadd 1), [.n 2], none, 0⟩,
  ⟨1, .N .load1, [.l 0], none, 0⟩,
  ⟨2, .N .mv, [.n 5], none, 0⟩,
  ⟨3, .N (.idx 2), [.l 1, .l 0], none, 0⟩,
  ⟨4, .N (.fadd 1), [.l 0], none, 0⟩,
  ⟨5, .N .load1, [.l 0], none, 0⟩,
  ⟨6, .N .mv, [.n 1], none, 0⟩,
  ⟨7, .N (.bin .eql), [.l 1, .l 0], none, 0⟩] := Eq.trans rfl rfl
theorem er10_9 (φ : Nat → Nat) : r10_9 φ = [
  ⟨0, .N .mv, [.n 4], none, 0⟩,
  ⟨1, .N (.fadd 1), [.n 2], none, 0⟩,
  ⟨2, .N .load1, [.l 0], none, 0⟩,
  ⟨3, .N .mv, [.n 5], none, 0⟩,
  ⟨4, .N (.idx 2), [.l 1, .l 0], none, 0⟩,
  ⟨5, .N (.fadd 0), [.l 0], none, 0⟩,
  ⟨6, .N .load1, [.l 0], none, 0⟩,
  ⟨7, .N (.bsl [.int .i64 0] 1 1 [(0, 1)]), [.l 0], none, 0⟩,
  ⟨8, .X (.app 1 8), [.l 7, .l 0], none, 0⟩,
  ⟨9, .N .mv, [.l 0], none, 0⟩] := Eq.trans rfl rfl
theorem er10_10 (φ : Nat → Nat) : r10_10 φ = [
  ⟨0, .N .mv, [.n 5], none, 0⟩,
  ⟨1, .N (.bin .add), [.l 0, .c (.int .i64 1)], none, 0⟩,
  ⟨2, .N .mv, [.l 0], none, 0⟩] := Eq.trans rfl rfl
theorem er10_12 (φ : Nat → Nat) : r10_12 φ = [
  ⟨0, .N .mv, [.n 4], none, 0⟩,
  ⟨1, .calli false (φ 30), [.l 0], none, 0⟩,
  ⟨2, .N .mv, [.l 0], none, 0⟩] := Eq.trans rfl rfl
theorem er13_0 (φ : Nat → Nat) : r13_0 φ = [
  ⟨0, .N .box, [.n 0], none, 0⟩,
  ⟨1, .N .mv, [.c (.nils)], none, 0⟩] := Eq.trans rfl rfl
theorem er13_1 (φ : Nat → Nat) : r13_1 φ = [
  ⟨0, .N (.bsl [.int .i64 0] 0 1 []), [], none, 0⟩,
  ⟨1, .N .mv, [.l 0], none, 0⟩] := Eq.trans rfl rfl
theorem er13_2 (φ : Nat → Nat) : r13_2 φ = [
  ⟨0, .N (.loadN 2), [.n 1], none, 0⟩,
  ⟨1, .calli true (φ 6), [.l 0], none, 0⟩,
  ⟨2, .N (.un .not), [.l 0], none, 0⟩] := Eq.trans rfl rfl
theorem er13_3 (φ : Nat → Nat) : r13_3 φ = [
  ⟨0, .N .mv, [.n 3], none, 0⟩,
  ⟨1, .N .mv, [.l 0], none, 0⟩] := Eq.trans rfl rfl
theorem er13_4 (φ : Nat → Nat) : r13_4 φ = [
  ⟨0, .N .mv, [.c (.int .i64 0)], none, 0⟩] := Eq.trans rfl rfl
theorem er13_5 (φ : Nat → Nat) : r13_5 φ = [
  ⟨0, .N .mv, [.n 4], none, 0⟩,
  ⟨1, .N (.fadd 0), [.n 1], none, 0⟩,
  ⟨2, .N .load1, [.l 0], none, 0⟩,
  ⟨3, .N (.bin .lss), [.l 2, .l 0], none, 0⟩] := Eq.trans rfl rfl
theorem er13_6 (φ : Nat → Nat) : r13_6 φ = [
  ⟨0, .N .mv, [.n 3], none, 0⟩,
  ⟨1, .N (.loadN 2), [.n 1], none, 0⟩,
  ⟨2, .N .mv, [.n 4], none, 0⟩,
  ⟨3, .calli false (φ 10), [.l 1, .l 0], none, 0⟩,
  ⟨4, .N .lenS, [.l 0], none, 0⟩,
  ⟨5, .N (.bsl [.int .i64 0] 1 1 [(0, 1)]), [.l 0], none, 0⟩,
  ⟨6, .X (.app 1 8), [.l 5, .l 0], none, 0⟩,
  ⟨7, .N .mv, [.l 0], none, 0⟩] := Eq.trans rfl rfl
theorem er13_7 (φ : Nat → Nat) : r13_7 φ = [
  ⟨0, .N .mv, [.n 4], none, 0⟩,
  ⟨1, .N (.bin .add), [.l 0, .c (.int .i64 1)], none, 0⟩,
  ⟨2, .N .mv, [.l 0], none, 0⟩] := Eq.trans rfl rfl
theorem er13_9 (φ : Nat → Nat) : r13_9 φ = [
  ⟨0, .N .mv, [.n 3], none, 0⟩,
  ⟨1, .N .mv, [.l 0], none, 0⟩] := Eq.trans rfl rfl
theorem er12_0 (φ : Nat → Nat) : r12_0 φ = [
  ⟨0, .N .box, [.n 0], none, 0⟩,
  ⟨1, .N .mv, [.c (.nils)], none, 0⟩] := Eq.trans rfl rfl
theorem er12_1 (φ : Nat → Nat) : r12_1 φ = [
  ⟨0, .N (.loadN 2), [.n 1], none, 0⟩,
  ⟨1, .calli true (φ 4), [.l 0], none, 0⟩,
  ⟨2, .N (.un .not), [.l 0], none, 0⟩] := Eq.trans rfl rfl
theorem er12_2 (φ : Nat → Nat) : r12_2 φ = [
  ⟨0, .N .mv, [.c (.nils)], none, 0⟩] := Eq.trans rfl rfl
theorem er12_3 (φ : Nat → Nat) : r12_3 φ = [
  ⟨0, .N (.fadd 0), [.n 1], none, 0⟩,
  ⟨1, .N .load1, [.l 0], none, 0⟩,
  ⟨2, .N (.mksl [.int .i64 0] 1 8), [.l 0, .l 0], none, 0⟩,
  ⟨3, .N .mv, [.l 0], none, 0⟩] := Eq.trans rfl rfl
theorem er12_4 (φ : Nat → Nat) : r12_4 φ = [
  ⟨0, .N (.fadd 1), [.n 1], none, 0⟩,
  ⟨1, .N .load1, [.l 0], none, 0⟩,
  ⟨2, .N .lenS, [.l 0], none, 0⟩,
  ⟨3, .N .mv, [.c (.int .i64 0)], none, 0⟩] := Eq.trans rfl rfl
theorem er12_5 (φ : Nat → Nat) : r12_5 φ = [
  ⟨0, .N (.bin .lss), [.n 8, .n 7], none, 0⟩] := Eq.trans rfl rfl
theorem er12_6 (φ : Nat → Nat) : r12_6 φ = [
  ⟨0, .N (.idx 2), [.n 6, .n 8], none, 0⟩,
  ⟨1, .N (.loadN 2), [.l 0], none, 0⟩,
  ⟨2, .N (.alloc [.int .i64 0, .int .i64 0]), [], none, 0⟩,
  ⟨3, .X (.store 2), [.l 0, .l 1], none, 0⟩] := Eq.trans rfl rfl
theorem er12_7 (φ : Nat → Nat) : r12_7 φ = [
  ⟨0, .N .mv, [.n 3], none, 0⟩,
  ⟨1, .N (.fadd 0), [.n 4], none, 0⟩,
  ⟨2, .N .load1, [.l 0], none, 0⟩,
  ⟨3, .N (.idx 1), [.l 2, .l 0], none, 0⟩,
  ⟨4, .N .load1, [.l 0], none, 0⟩,
  ⟨5, .N (.bin .add), [.l 0, .c (.int .i64 1)], none, 0⟩,
  ⟨6, .N (.idx 1), [.l 5, .l 3], none, 0⟩,
  ⟨7, .X (.store 1), [.l 0, .l 1], none, 0⟩] := Eq.trans rfl rfl
theorem er12_8 (φ : Nat → Nat) : r12_8 φ = [
  ⟨0, .N .mv, [.n 3], none, 0⟩,
  ⟨1, .N (.fadd 1), [.n 4], none, 0⟩,
  ⟨2, .N .load1, [.l 0], none, 0⟩,
  ⟨3, .N (.idx 1), [.l 2, .l 0], none, 0⟩,
  ⟨4, .N .load1, [.l 0], none, 0⟩,
  ⟨5, .N (.bin .add), [.l 0, .c (.int .i64 1)], none, 0⟩,
  ⟨6, .N (.idx 1), [.l 5, .l 3], none, 0⟩,
  ⟨7, .X (.store 1), [.l 0, .l 1], none, 0⟩] := Eq.trans rfl rfl
theorem er12_9 (φ : Nat → Nat) : r12_9 φ = [
  ⟨0, .N (.bin .add), [.n 8, .c (.int .i64 1)], none, 0⟩,
  ⟨1, .N .mv, [.l 0], none, 0⟩] := Eq.trans rfl rfl
theorem er12_11 (φ : Nat → Nat) : r12_11 φ = [
  ⟨0, .N .mv, [.n 3], none, 0⟩,
  ⟨1, .N .mv, [.l 0], none, 0⟩] := Eq.trans rfl rfl
/-- The neighbours of a vertex, edge by edge. -/
def nbr (v : Int) (x : Ed) : List Int := (if x.1 = v then [x.2] else []) ++ (if x.2 = v then [x.1] else [])
def nbR (v : Int) (es : List Ed) : List Int := es.flatMap (nbr v)
theorem nbR_snoc (v : Int) (es : List Ed) (x : Ed) : nbR v (es ++ [x]) = nbR v es ++ nbr v x := by simp [nbR]
theorem nbR_len (v : Int) (es : List Ed) : (nbR v es).length ≤ 2 * es.length := by
  induction es with
  | nil => simp [nbR]
  | cons x l ih =>
    simp only [nbR, List.flatMap_cons, List.length_append, List.length_cons] at *
    have : (nbr v x).length ≤ 2 := by unfold nbr; split <;> split <;> simp
    omega
set_option maxHeartbeats 1000000 in
theorem w_RNear (h : Has A (φ 10) (f10 φ)) (h2 : Has A (φ 6) (f6 φ)) (h3 : Has A (φ 30) (f30 φ)) (n a : Int) (v : AV) (es : List Ed) (hv : IsE v es) :
    PVal A (φ 10) [gV n v, .int .i64 a] (vI (if rightE n es then sortI (nbR a es) else [])) := by
  have hlen := hv.len
  have hone := hv.one
  have hcl := hv.closed
  have hr := (w_RRight h2 n v es hv).eq
  by_cases hR : rightE n es = true
  · have hl := right_len hR
    rw [if_pos hR]
    refine pval_has h rfl ?_
    simp only [l10_11, b10, f10]
    simp [↓getD_z, ↓getD_s, -List.getD_eq_getElem?_getD, -Int.ofNat_toNat, -getElem?_pos, gz, ↓hid_k, ↓hid_o, ↓hid_q, ↓hid_v, ↓PO_nil, ↓PO_none, ↓PO_grd, ↓PD_nil, ↓PD_none, ↓PD_grd, ↓PDO_N, ↓PDO_X, ↓PDO_call, ↓PDO_calli, ↓PDO_callv, PDX_free, PDX_eq, ↓PStep_N, ↓PStep_X, ↓PStep_call, ↓PStep_calli, PStep_callv, ↓PC_skip, ↓PC_lab, ↓PC_ret, ↓PC_exit, ↓PC_reg, ↓PC_draw, ↓PC_seq, ↓PC_block, ↓PC_loop, ↓PC_scope, ↓PC_cond, ↓thenC_norm, ↓thenC_ret, ↓thenC_exit, ↓blockC_norm, ↓blockC_ret, ↓blockC_exit, ↓loopC_norm, ↓loopC_ret, ↓loopC_exit, ↓endR_ret, ↓endR_norm, resK_none, resK_t, resK_tt, KNO_val, KNO_new, KNO_ite, KNO_map, KXO_some, KXO_ite, KVA_t, KVA_f, KG_skip, KG_tt, KG_ff, KG_tf, KG_ft, KB_true, KB_false, KNOD_val, KNOD_new, KNOD_ite, n_mv, n_pick, n_bin, n_eqB, n_eqN, n_eqS, n_un, n_conv, n_fadd, n_faddV, n_fld1, n_fldN, n_idx, n_idxA, n_idxV, n_idxAV, n_ext, n_lenS, n_lenS0, n_lenV, n_lenT, n_lenA, n_min, n_max, n_build, n_mkfn, n_slc, n_slc0, n_slcV, n_slcA, n_load1, n_loadN, n_load1V, n_loadNV, n_alloc, n_box, n_bsl, n_mksl, n_nilcP, n_nilcV, n_nilcI, n_nilcF, x_store, x_clear0, x_clear, b_add, b_sub, b_mul, b_eql, b_neq, b_lss, b_leq, b_gtr, b_geq, b_and16, unV, ntouch, gather, hide, unhide, evalOpd, applyOuts, int_bne, int_beq, ite_bool, ite_int, one_bool, cells_bool, one_int, cells_int, one_str, cells_str, one_nilp, cells_nilp, one_ptr, cells_ptr, one_nils, cells_nils, one_sl, cells_sl, one_nilf, cells_nilf, one_fn, cells_fn, one_nili, cells_nili, one_mp, cells_mp, one_nilm, cells_nilm, one_iface, cells_iface, one_vs, cells_vs, one_vp, cells_vp, cells_agg, Nat.testBit, setAt_1, setAt_2, closeds_nil, closeds_cons, closed_bool, closed_int, closed_str, closed_nilp, closed_nils, closed_nilm, closed_nilf, closed_nili, closed_agg, closed_tup, closed_vs, closed_vp, closed_iface, closed_fn, closeds_cI, closeds_cE, viewA_closed, viewR_closed, AV.scal, AV.scal0, fillA, repA, part_bool, part_int, part_str, part_nilp, part_ptr, part_nils, part_sl, part_nilm, part_mp, part_nilf, part_fn, part_nili, part_iface, part_agg, part_vs, part_vp, viewA_sl1, vaSl_cells, wrap_0, wrap_1, wrap_2, wrap_m1, set_last, get_last, er10_0, er10_1, er10_2, er10_3, er10_4, er10_5, er10_6, er10_7, er10_8, er10_9, er10_10, er10_12, hone, hlen, hcl, hr, hR]
    refine pc_loopI (fun m st => ∃ (i : Nat) (o p q r : AV) (H : Heap), i + m = es.length ∧ OwnI false 1 H o (nbR a (es.take i)) ∧ H[0]? = some (.cells 0 false [.int .i64 n, v]) ∧
      st = ([gV n v, .int .i64 a, .ptr 0 0 0, .nils, o, .int .i64 i, .bool false, p, q, r], H)) es.length ⟨0, _, _, _, _, _, by simp, ownI_empty 1 _ 1 0 0, rfl, rfl⟩ ?_
    rintro m st ⟨i, o, p, q, r, H, hi, ho, e0, rfl⟩
    by_cases hlt : i < es.length
    · have hlt' : (i : Int) < es.length := by omega
      obtain ⟨i1, g1', g2', le1, t1⟩ := hv.at hlt
      have hw1 := wrap1 hlt (by omega)
      have hsn := nbR_snoc a (es.take i) es[i]
      rw [← List.take_succ_eq_append_getElem hlt] at hsn
      have hnl := nbR_len a (es.take i)
      have hl0 := lt_of_get e0
      unfold nbr at hsn
      generalize hx : es[i].1 = x at *
      generalize hy : es[i].2 = y at *
      obtain ⟨o1, H1, x1, x2, x3, x4, _, _⟩ := OwnI.app1 ho y hl0 (by simp at hnl; omega)
      have e1 : H1[0]? = some (.cells 0 false [.int .i64 n, v]) := by rw [x3 0 (by omega)]; exact e0
      by_cases k1 : x = a
      · rw [if_pos k1] at hsn
        by_cases k2 : y = a
        · rw [if_pos k2] at hsn
          obtain ⟨o2, H2, y1, y2, y3, y4, _, _⟩ := OwnI.app1 x2 x (lt_of_get e1) (by simp at hnl ⊢; omega)
          have e2 : H2[0]? = some (.cells 0 false [.int .i64 n, v]) := by rw [y3 0 (by omega)]; exact e1
          rw [k1] at y1 y2; rw [k2] at x1
          simp [↓getD_z, ↓getD_s, -List.getD_eq_getElem?_getD, -Int.ofNat_toNat, -getElem?_pos, gz, ↓hid_k, ↓hid_o, ↓hid_q, ↓hid_v, ↓PO_nil, ↓PO_none, ↓PO_grd, ↓PD_nil, ↓PD_none, ↓PD_grd, ↓PDO_N, ↓PDO_X, ↓PDO_call, ↓PDO_calli, ↓PDO_callv, PDX_free, PDX_eq, ↓PStep_N, ↓PStep_X, ↓PStep_call, ↓PStep_calli, PStep_callv, ↓PC_skip, ↓PC_lab, ↓PC_ret, ↓PC_exit, ↓PC_reg, ↓PC_draw, ↓PC_seq, ↓PC_block, ↓PC_loop, ↓PC_scope, ↓PC_cond, ↓thenC_norm, ↓thenC_ret, ↓thenC_exit, ↓blockC_norm, ↓blockC_ret, ↓blockC_exit, ↓loopC_norm, ↓loopC_ret, ↓loopC_exit, ↓endR_ret, ↓endR_norm, resK_none, resK_t, resK_tt, KNO_val, KNO_new, KNO_ite, KNO_map, KXO_some, KXO_ite, KVA_t, KVA_f, KG_skip, KG_tt, KG_ff, KG_tf, KG_ft, KB_true, KB_false, KNOD_val, KNOD_new, KNOD_ite, n_mv, n_pick, n_bin, n_eqB, n_eqN, n_eqS, n_un, n_conv, n_fadd, n_faddV, n_fld1, n_fldN, n_idx, n_idxA, n_idxV, n_idxAV, n_ext, n_lenS, n_lenS0, n_lenV, n_lenT, n_lenA, n_min, n_max, n_build, n_mkfn, n_slc, n_slc0, n_slcV, n_slcA, n_load1, n_loadN, n_load1V, n_loadNV, n_alloc, n_box, n_bsl, n_mksl, n_nilcP, n_nilcV, n_nilcI, n_nilcF, x_store, x_clear0, x_clear, b_add, b_sub, b_mul, b_eql, b_neq, b_lss, b_leq, b_gtr, b_geq, b_and16, unV, ntouch, gather, hide, unhide, evalOpd, applyOuts, int_bne, int_beq, ite_bool, ite_int, one_bool, cells_bool, one_int, cells_int, one_str, cells_str, one_nilp, cells_nilp, one_ptr, cells_ptr, one_nils, cells_nils, one_sl, cells_sl, one_nilf, cells_nilf, one_fn, cells_fn, one_nili, cells_nili, one_mp, cells_mp, one_nilm, cells_nilm, one_iface, cells_iface, one_vs, cells_vs, one_vp, cells_vp, cells_agg, Nat.testBit, setAt_1, setAt_2, closeds_nil, closeds_cons, closed_bool, closed_int, closed_str, closed_nilp, closed_nils, closed_nilm, closed_nilf, closed_nili, closed_agg, closed_tup, closed_vs, closed_vp, closed_iface, closed_fn, closeds_cI, closeds_cE, viewA_closed, viewR_closed, AV.scal, AV.scal0, fillA, repA, part_bool, part_int, part_str, part_nilp, part_ptr, part_nils, part_sl, part_nilm, part_mp, part_nilf, part_fn, part_nili, part_iface, part_agg, part_vs, part_vp, viewA_sl1, vaSl_cells, wrap_0, wrap_1, wrap_2, wrap_m1, set_last, get_last, er10_0, er10_1, er10_2, er10_3, er10_4, er10_5, er10_6, er10_7, er10_8, er10_9, er10_10, er10_12, hlen, hlt', e0, e1, i1, g1', g2', k1, k2, x1, y1, hw1]
          refine next_mk (m - 1) (by omega) ⟨i + 1, o2, _, _, _, H2, by omega, ?_, e2, rfl⟩
          rw [hsn]; rw [k2] at y2; simpa [k1, k2] using y2
        · rw [if_neg k2, List.append_nil] at hsn
          simp [↓getD_z, ↓getD_s, -List.getD_eq_getElem?_getD, -Int.ofNat_toNat, -getElem?_pos, gz, ↓hid_k, ↓hid_o, ↓hid_q, ↓hid_v, ↓PO_nil, ↓PO_none, ↓PO_grd, ↓PD_nil, ↓PD_none, ↓PD_grd, ↓PDO_N, ↓PDO_X, ↓PDO_call, ↓PDO_calli, ↓PDO_callv, PDX_free, PDX_eq, ↓PStep_N, ↓PStep_X, ↓PStep_call, ↓PStep_calli, PStep_callv, ↓PC_skip, ↓PC_lab, ↓PC_ret, ↓PC_exit, ↓PC_reg, ↓PC_draw, ↓PC_seq, ↓PC_block, ↓PC_loop, ↓PC_scope, ↓PC_cond, ↓thenC_norm, ↓thenC_ret, ↓thenC_exit, ↓blockC_norm, ↓blockC_ret, ↓blockC_exit, ↓loopC_norm, ↓loopC_ret, ↓loopC_exit, ↓endR_ret, ↓endR_norm, resK_none, resK_t, resK_tt, KNO_val, KNO_new, KNO_ite, KNO_map, KXO_some, KXO_ite, KVA_t, KVA_f, KG_skip, KG_tt, KG_ff, KG_tf, KG_ft, KB_true, KB_false, KNOD_val, KNOD_new, KNOD_ite, n_mv, n_pick, n_bin, n_eqB, n_eqN, n_eqS, n_un, n_conv, n_fadd, n_faddV, n_fld1, n_fldN, n_idx, n_idxA, n_idxV, n_idxAV, n_ext, n_lenS, n_lenS0, n_lenV, n_lenT, n_lenA, n_min, n_max, n_build, n_mkfn, n_slc, n_slc0, n_slcV, n_slcA, n_load1, n_loadN, n_load1V, n_loadNV, n_alloc, n_box, n_bsl, n_mksl, n_nilcP, n_nilcV, n_nilcI, n_nilcF, x_store, x_clear0, x_clear, b_add, b_sub, b_mul, b_eql, b_neq, b_lss, b_leq, b_gtr, b_geq, b_and16, unV, ntouch, gather, hide, unhide, evalOpd, applyOuts, int_bne, int_beq, ite_bool, ite_int, one_bool, cells_bool, one_int, cells_int, one_str, cells_str, one_nilp, cells_nilp, one_ptr, cells_ptr, one_nils, cells_nils, one_sl, cells_sl, one_nilf, cells_nilf, one_fn, cells_fn, one_nili, cells_nili, one_mp, cells_mp, one_nilm, cells_nilm, one_iface, cells_iface, one_vs, cells_vs, one_vp, cells_vp, cells_agg, Nat.testBit, setAt_1, setAt_2, closeds_nil, closeds_cons, closed_bool, closed_int, closed_str, closed_nilp, closed_nils, closed_nilm, closed_nilf, closed_nili, closed_agg, closed_tup, closed_vs, closed_vp, closed_iface, closed_fn, closeds_cI, closeds_cE, viewA_closed, viewR_closed, AV.scal, AV.scal0, fillA, repA, part_bool, part_int, part_str, part_nilp, part_ptr, part_nils, part_sl, part_nilm, part_mp, part_nilf, part_fn, part_nili, part_iface, part_agg, part_vs, part_vp, viewA_sl1, vaSl_cells, wrap_0, wrap_1, wrap_2, wrap_m1, set_last, get_last, er10_0, er10_1, er10_2, er10_3, er10_4, er10_5, er10_6, er10_7, er10_8, er10_9, er10_10, er10_12, hlen, hlt', e0, e1, i1, g1', g2', k1, k2, x1, hw1]
          exact next_mk (m - 1) (by omega) ⟨i + 1, o1, _, _, _, H1, by omega, by rw [hsn]; exact x2, e1, rfl⟩
      · rw [if_neg k1, List.nil_append] at hsn
        by_cases k2 : y = a
        · rw [if_pos k2] at hsn
          obtain ⟨o2, H2, y1, y2, y3, y4, _, _⟩ := OwnI.app1 ho x hl0 (by simp at hnl ⊢; omega)
          have e2 : H2[0]? = some (.cells 0 false [.int .i64 n, v]) := by rw [y3 0 (by omega)]; exact e0
          simp [↓getD_z, ↓getD_s, -List.getD_eq_getElem?_getD, -Int.ofNat_toNat, -getElem?_pos, gz, ↓hid_k, ↓hid_o, ↓hid_q, ↓hid_v, ↓PO_nil, ↓PO_none, ↓PO_grd, ↓PD_nil, ↓PD_none, ↓PD_grd, ↓PDO_N, ↓PDO_X, ↓PDO_call, ↓PDO_calli, ↓PDO_callv, PDX_free, PDX_eq, ↓PStep_N, ↓PStep_X, ↓PStep_call, ↓PStep_calli, PStep_callv, ↓PC_skip, ↓PC_lab, ↓PC_ret, ↓PC_exit, ↓PC_reg, ↓PC_draw, ↓PC_seq, ↓PC_block, ↓PC_loop, ↓PC_scope, ↓PC_cond, ↓thenC_norm, ↓thenC_ret, ↓thenC_exit, ↓blockC_norm, ↓blockC_ret, ↓blockC_exit, ↓loopC_norm, ↓loopC_ret, ↓loopC_exit, ↓endR_ret, ↓endR_norm, resK_none, resK_t, resK_tt, KNO_val, KNO_new, KNO_ite, KNO_map, KXO_some, KXO_ite, KVA_t, KVA_f, KG_skip, KG_tt, KG_ff, KG_tf, KG_ft, KB_true, KB_false, KNOD_val, KNOD_new, KNOD_ite, n_mv, n_pick, n_bin, n_eqB, n_eqN, n_eqS, n_un, n_conv, n_fadd, n_faddV, n_fld1, n_fldN, n_idx, n_idxA, n_idxV, n_idxAV, n_ext, n_lenS, n_lenS0, n_lenV, n_lenT, n_lenA, n_min, n_max, n_build, n_mkfn, n_slc, n_slc0, n_slcV, n_slcA, n_load1, n_loadN, n_load1V, n_loadNV, n_alloc, n_box, n_bsl, n_mksl, n_nilcP, n_nilcV, n_nilcI, n_nilcF, x_store, x_clear0, x_clear, b_add, b_sub, b_mul, b_eql, b_neq, b_lss, b_leq, b_gtr, b_geq, b_and16, unV, ntouch, gather, hide, unhide, evalOpd, applyOuts, int_bne, int_beq, ite_bool, ite_int, one_bool, cells_bool, one_int, cells_int, one_str, cells_str, one_nilp, cells_nilp, one_ptr, cells_ptr, one_nils, cells_nils, one_sl, cells_sl, one_nilf, cells_nilf, one_fn, cells_fn, one_nili, cells_nili, one_mp, cells_mp, one_nilm, cells_nilm, one_iface, cells_iface, one_vs, cells_vs, one_vp, cells_vp, cells_agg, Nat.testBit, setAt_1, setAt_2, closeds_nil, closeds_cons, closed_bool, closed_int, closed_str, closed_nilp, closed_nils, closed_nilm, closed_nilf, closed_nili, closed_agg, closed_tup, closed_vs, closed_vp, closed_iface, closed_fn, closeds_cI, closeds_cE, viewA_closed, viewR_closed, AV.scal, AV.scal0, fillA, repA, part_bool, part_int, part_str, part_nilp, part_ptr, part_nils, part_sl, part_nilm, part_mp, part_nilf, part_fn, part_nili, part_iface, part_agg, part_vs, part_vp, viewA_sl1, vaSl_cells, wrap_0, wrap_1, wrap_2, wrap_m1, set_last, get_last, er10_0, er10_1, er10_2, er10_3, er10_4, er10_5, er10_6, er10_7, er10_8, er10_9, er10_10, er10_12, hlen, hlt', e0, i1, g1', g2', k1, k2, y1, hw1]
          exact next_mk (m - 1) (by omega) ⟨i + 1, o2, _, _, _, H2, by omega, by rw [hsn]; exact y2, e2, rfl⟩
        · rw [if_neg k2, List.append_nil] at hsn
          simp [↓getD_z, ↓getD_s, -List.getD_eq_getElem?_getD, -Int.ofNat_toNat, -getElem?_pos, gz, ↓hid_k, ↓hid_o, ↓hid_q, ↓hid_v, ↓PO_nil, ↓PO_none, ↓PO_grd, ↓PD_nil, ↓PD_none, ↓PD_grd, ↓PDO_N, ↓PDO_X, ↓PDO_call, ↓PDO_calli, ↓PDO_callv, PDX_free, PDX_eq, ↓PStep_N, ↓PStep_X, ↓PStep_call, ↓PStep_calli, PStep_callv, ↓PC_skip, ↓PC_lab, ↓PC_ret, ↓PC_exit, ↓PC_reg, ↓PC_draw, ↓PC_seq, ↓PC_block, ↓PC_loop, ↓PC_scope, ↓PC_cond, ↓thenC_norm, ↓thenC_ret, ↓thenC_exit, ↓blockC_norm, ↓blockC_ret, ↓blockC_exit, ↓loopC_norm, ↓loopC_ret, ↓loopC_exit, ↓endR_ret, ↓endR_norm, resK_none, resK_t, resK_tt, KNO_val, KNO_new, KNO_ite, KNO_map, KXO_some, KXO_ite, KVA_t, KVA_f, KG_skip, KG_tt, KG_ff, KG_tf, KG_ft, KB_true, KB_false, KNOD_val, KNOD_new, KNOD_ite, n_mv, n_pick, n_bin, n_eqB, n_eqN, n_eqS, n_un, n_conv, n_fadd, n_faddV, n_fld1, n_fldN, n_idx, n_idxA, n_idxV, n_idxAV, n_ext, n_lenS, n_lenS0, n_lenV, n_lenT, n_lenA, n_min, n_max, n_build, n_mkfn, n_slc, n_slc0, n_slcV, n_slcA, n_load1, n_loadN, n_load1V, n_loadNV, n_alloc, n_box, n_bsl, n_mksl, n_nilcP, n_nilcV, n_nilcI, n_nilcF, x_store, x_clear0, x_clear, b_add, b_sub, b_mul, b_eql, b_neq, b_lss, b_leq, b_gtr, b_geq, b_and16, unV, ntouch, gather, hide, unhide, evalOpd, applyOuts, int_bne, int_beq, ite_bool, ite_int, one_bool, cells_bool, one_int, cells_int, one_str, cells_str, one_nilp, cells_nilp, one_ptr, cells_ptr, one_nils, cells_nils, one_sl, cells_sl, one_nilf, cells_nilf, one_fn, cells_fn, one_nili, cells_nili, one_mp, cells_mp, one_nilm, cells_nilm, one_iface, cells_iface, one_vs, cells_vs, one_vp, cells_vp, cells_agg, Nat.testBit, setAt_1, setAt_2, closeds_nil, closeds_cons, closed_bool, closed_int, closed_str, closed_nilp, closed_nils, closed_nilm, closed_nilf, closed_nili, closed_agg, closed_tup, closed_vs, closed_vp, closed_iface, closed_fn, closeds_cI, closeds_cE, viewA_closed, viewR_closed, AV.scal, AV.scal0, fillA, repA, part_bool, part_int, part_str, part_nilp, part_ptr, part_nils, part_sl, part_nilm, part_mp, part_nilf, part_fn, part_nili, part_iface, part_agg, part_vs, part_vp, viewA_sl1, vaSl_cells, wrap_0, wrap_1, wrap_2, wrap_m1, set_last, get_last, er10_0, er10_1, er10_2, er10_3, er10_4, er10_5, er10_6, er10_7, er10_8, er10_9, er10_10, er10_12, hlen, hlt', e0, i1, g1', g2', k1, k2, hw1]
          exact next_mk (m - 1) (by omega) ⟨i + 1, o, _, _, _, H, by omega, by rw [hsn]; exact ho, e0, rfl⟩
    · have hlt' : ¬ (i : Int) < es.length := by omega
      have hm : es.take i = es := List.take_of_length_le (by omega)
      rw [hm] at ho
      have hnl := nbR_len a es
      obtain ⟨H', hva, _, _⟩ := OwnI.viewA1 ho
      have hs := (w_Sorted h3 _ (nbR a es) (isI_v _) (by omega)).eq
      rw [rv_false] at hva
      simp [↓getD_z, ↓getD_s, -List.getD_eq_getElem?_getD, -Int.ofNat_toNat, -getElem?_pos, gz, ↓hid_k, ↓hid_o, ↓hid_q, ↓hid_v, ↓PO_nil, ↓PO_none, ↓PO_grd, ↓PD_nil, ↓PD_none, ↓PD_grd, ↓PDO_N, ↓PDO_X, ↓PDO_call, ↓PDO_calli, ↓PDO_callv, PDX_free, PDX_eq, ↓PStep_N, ↓PStep_X, ↓PStep_call, ↓PStep_calli, PStep_callv, ↓PC_skip, ↓PC_lab, ↓PC_ret, ↓PC_exit, ↓PC_reg, ↓PC_draw, ↓PC_seq, ↓PC_block, ↓PC_loop, ↓PC_scope, ↓PC_cond, ↓thenC_norm, ↓thenC_ret, ↓thenC_exit, ↓blockC_norm, ↓blockC_ret, ↓blockC_exit, ↓loopC_norm, ↓loopC_ret, ↓loopC_exit, ↓endR_ret, ↓endR_norm, resK_none, resK_t, resK_tt, KNO_val, KNO_new, KNO_ite, KNO_map, KXO_some, KXO_ite, KVA_t, KVA_f, KG_skip, KG_tt, KG_ff, KG_tf, KG_ft, KB_true, KB_false, KNOD_val, KNOD_new, KNOD_ite, n_mv, n_pick, n_bin, n_eqB, n_eqN, n_eqS, n_un, n_conv, n_fadd, n_faddV, n_fld1, n_fldN, n_idx, n_idxA, n_idxV, n_idxAV, n_ext, n_lenS, n_lenS0, n_lenV, n_lenT, n_lenA, n_min, n_max, n_build, n_mkfn, n_slc, n_slc0, n_slcV, n_slcA, n_load1, n_loadN, n_load1V, n_loadNV, n_alloc, n_box, n_bsl, n_mksl, n_nilcP, n_nilcV, n_nilcI, n_nilcF, x_store, x_clear0, x_clear, b_add, b_sub, b_mul, b_eql, b_neq, b_lss, b_leq, b_gtr, b_geq, b_and16, unV, ntouch, gather, hide, unhide, evalOpd, applyOuts, int_bne, int_beq, ite_bool, ite_int, one_bool, cells_bool, one_int, cells_int, one_str, cells_str, one_nilp, cells_nilp, one_ptr, cells_ptr, one_nils, cells_nils, one_sl, cells_sl, one_nilf, cells_nilf, one_fn, cells_fn, one_nili, cells_nili, one_mp, cells_mp, one_nilm, cells_nilm, one_iface, cells_iface, one_vs, cells_vs, one_vp, cells_vp, cells_agg, Nat.testBit, setAt_1, setAt_2, closeds_nil, closeds_cons, closed_bool, closed_int, closed_str, closed_nilp, closed_nils, closed_nilm, closed_nilf, closed_nili, closed_agg, closed_tup, closed_vs, closed_vp, closed_iface, closed_fn, closeds_cI, closeds_cE, viewA_closed, viewR_closed, AV.scal, AV.scal0, fillA, repA, part_bool, part_int, part_str, part_nilp, part_ptr, part_nils, part_sl, part_nilm, part_mp, part_nilf, part_fn, part_nili, part_iface, part_agg, part_vs, part_vp, viewA_sl1, vaSl_cells, wrap_0, wrap_1, wrap_2, wrap_m1, set_last, get_last, er10_0, er10_1, er10_2, er10_3, er10_4, er10_5, er10_6, er10_7, er10_8, er10_9, er10_10, er10_12, hlen, hlt', e0, hva, hs]
  · rw [if_neg hR]
    simp only [Bool.not_eq_true] at hR
    refine pval_has h rfl ?_
    simp only [l10_11, b10, f10]
    simp [↓getD_z, ↓getD_s, -List.getD_eq_getElem?_getD, -Int.ofNat_toNat, -getElem?_pos, gz, ↓hid_k, ↓hid_o, ↓hid_q, ↓hid_v, ↓PO_nil, ↓PO_none, ↓PO_grd, ↓PD_nil, ↓PD_none, ↓PD_grd, ↓PDO_N, ↓PDO_X, ↓PDO_call, ↓PDO_calli, ↓PDO_callv, PDX_free, PDX_eq, ↓PStep_N, ↓PStep_X, ↓PStep_call, ↓PStep_calli, PStep_callv, ↓PC_skip, ↓PC_lab, ↓PC_ret, ↓PC_exit, ↓PC_reg, ↓PC_draw, ↓PC_seq, ↓PC_block, ↓PC_loop, ↓PC_scope, ↓PC_cond, ↓thenC_norm, ↓thenC_ret, ↓thenC_exit, ↓blockC_norm, ↓blockC_ret, ↓blockC_exit, ↓loopC_norm, ↓loopC_ret, ↓loopC_exit, ↓endR_ret, ↓endR_norm, resK_none, resK_t, resK_tt, KNO_val, KNO_new, KNO_ite, KNO_map, KXO_some, KXO_ite, KVA_t, KVA_f, KG_skip, KG_tt, KG_ff, KG_tf, KG_ft, KB_true, KB_false, KNOD_val, KNOD_new, KNOD_ite, n_mv, n_pick, n_bin, n_eqB, n_eqN, n_eqS, n_un, n_conv, n_fadd, n_faddV, n_fld1, n_fldN, n_idx, n_idxA, n_idxV, n_idxAV, n_ext, n_lenS, n_lenS0, n_lenV, n_lenT, n_lenA, n_min, n_max, n_build, n_mkfn, n_slc, n_slc0, n_slcV, n_slcA, n_load1, n_loadN, n_load1V, n_loadNV, n_alloc, n_box, n_bsl, n_mksl, n_nilcP, n_nilcV, n_nilcI, n_nilcF, x_store, x_clear0, x_clear, b_add, b_sub, b_mul, b_eql, b_neq, b_lss, b_leq, b_gtr, b_geq, b_and16, unV, ntouch, gather, hide, unhide, evalOpd, applyOuts, int_bne, int_beq, ite_bool, ite_int, one_bool, cells_bool, one_int, cells_int, one_str, cells_str, one_nilp, cells_nilp, one_ptr, cells_ptr, one_nils, cells_nils, one_sl, cells_sl, one_nilf, cells_nilf, one_fn, cells_fn, one_nili, cells_nili, one_mp, cells_mp, one_nilm, cells_nilm, one_iface, cells_iface, one_vs, cells_vs, one_vp, cells_vp, cells_agg, Nat.testBit, setAt_1, setAt_2, closeds_nil, closeds_cons, closed_bool, closed_int, closed_str, closed_nilp, closed_nils, closed_nilm, closed_nilf, closed_nili, closed_agg, closed_tup, closed_vs, closed_vp, closed_iface, closed_fn, closeds_cI, closeds_cE, viewA_closed, viewR_closed, AV.scal, AV.scal0, fillA, repA, part_bool, part_int, part_str, part_nilp, part_ptr, part_nils, part_sl, part_nilm, part_mp, part_nilf, part_fn, part_nili, part_iface, part_agg, part_vs, part_vp, viewA_sl1, vaSl_cells, wrap_0, wrap_1, wrap_2, wrap_m1, set_last, get_last, er10_0, er10_1, er10_2, er10_3, er10_4, er10_5, er10_6, er10_7, er10_8, er10_9, er10_10, er10_12, hone, hlen, hcl, hr, hR, viewR_def, viewV_sl0, reachV_sl0, fuelV, frzH_nil, cI]
def degs (n : Int) (es : List Ed) : List Int := (List.range n.toNat).map fun (v : Nat) => ((nbR (v : Int) es).length : Int)
theorem w_RDegrees (h : Has A (φ 13) (f13 φ)) (h1 : Has A (φ 10) (f10 φ)) (h2 : Has A (φ 6) (f6 φ)) (h3 : Has A (φ 30) (f30 φ)) (n : Int) (v : AV) (es : List Ed) (hv : IsE v es) :
    PVal A (φ 13) [gV n v] (vI (if rightE n es then degs n es else [])) := by
  have hlen := hv.len
  have hone := hv.one
  have hcl := hv.closed
  have hr := (w_RRight h2 n v es hv).eq
  by_cases hR : rightE n es = true
  · have hl := right_len hR
    rw [if_pos hR]
    refine pval_has h rfl ?_
    simp only [l13_8, b13, f13]
    simp [↓getD_z, ↓getD_s, -List.getD_eq_getElem?_getD, -Int.ofNat_toNat, -getElem?_pos, gz, ↓hid_k, ↓hid_o, ↓hid_q, ↓hid_v, ↓PO_nil, ↓PO_none, ↓PO_grd, ↓PD_nil, ↓PD_none, ↓PD_grd, ↓PDO_N, ↓PDO_X, ↓PDO_call, ↓PDO_calli, ↓PDO_callv, PDX_free, PDX_eq, ↓PStep_N, ↓PStep_X, ↓PStep_call, ↓PStep_calli, PStep_callv, ↓PC_skip, ↓PC_lab, ↓PC_ret, ↓PC_exit, ↓PC_reg, ↓PC_draw, ↓PC_seq, ↓PC_block, ↓PC_loop, ↓PC_scope, ↓PC_cond, ↓thenC_norm, ↓thenC_ret, ↓thenC_exit, ↓blockC_norm, ↓blockC_ret, ↓blockC_exit, ↓loopC_norm, ↓loopC_ret, ↓loopC_exit, ↓endR_ret, ↓endR_norm, resK_none, resK_t, resK_tt, KNO_val, KNO_new, KNO_ite, KNO_map, KXO_some, KXO_ite, KVA_t, KVA_f, KG_skip, KG_tt, KG_ff, KG_tf, KG_ft, KB_true, KB_false, KNOD_val, KNOD_new, KNOD_ite, n_mv, n_pick, n_bin, n_eqB, n_eqN, n_eqS, n_un, n_conv, n_fadd, n_faddV, n_fld1, n_fldN, n_idx, n_idxA, n_idxV, n_idxAV, n_ext, n_lenS, n_lenS0, n_lenV, n_lenT, n_lenA, n_min, n_max, n_build, n_mkfn, n_slc, n_slc0, n_slcV, n_slcA, n_load1, n_loadN, n_load1V, n_loadNV, n_alloc, n_box, n_bsl, n_mksl, n_nilcP, n_nilcV, n_nilcI, n_nilcF, x_store, x_clear0, x_clear, b_add, b_sub, b_mul, b_eql, b_neq, b_lss, b_leq, b_gtr, b_geq, b_and16, unV, ntouch, gather, hide, unhide, evalOpd, applyOuts, int_bne, int_beq, ite_bool, ite_int, one_bool, cells_bool, one_int, cells_int, one_str, cells_str, one_nilp, cells_nilp, one_ptr, cells_ptr, one_nils, cells_nils, one_sl, cells_sl, one_nilf, cells_nilf, one_fn, cells_fn, one_nili, cells_nili, one_mp, cells_mp, one_nilm, cells_nilm, one_iface, cells_iface, one_vs, cells_vs, one_vp, cells_vp, cells_agg, Nat.testBit, setAt_1, setAt_2, closeds_nil, closeds_cons, closed_bool, closed_int, closed_str, closed_nilp, closed_nils, closed_nilm, closed_nilf, closed_nili, closed_agg, closed_tup, closed_vs, closed_vp, closed_iface, closed_fn, closeds_cI, closeds_cE, viewA_closed, viewR_closed, AV.scal, AV.scal0, fillA, repA, part_bool, part_int, part_str, part_nilp, part_ptr, part_nils, part_sl, part_nilm, part_mp, part_nilf, part_fn, part_nili, part_iface, part_agg, part_vs, part_vp, viewA_sl1, vaSl_cells, wrap_0, wrap_1, wrap_2, wrap_m1, set_last, get_last, er13_0, er13_1, er13_2, er13_3, er13_4, er13_5, er13_6, er13_7, er13_9, hone, hlen, hcl, hr, hR]
    refine pc_loopI (fun m st => ∃ (i : Nat) (o r : AV) (H : Heap), i + m = n.toNat ∧ OwnI false 1 H o ((List.range i).map fun (v : Nat) => ((nbR (v : Int) es).length : Int)) ∧ H[0]? = some (.cells 0 false [.int .i64 n, v]) ∧
      st = ([gV n v, .ptr 0 0 0, .nils, o, .int .i64 i, .bool false, r], H)) n.toNat ⟨0, _, _, _, by simp, ownI_empty 1 _ 1 0 0, rfl, rfl⟩ ?_
    rintro m st ⟨i, o, r, H, hi, ho, e0, rfl⟩
    by_cases hlt : (i : Int) < n
    · have hw1 := wrap1 (i := i) (n := 2000) (by omega) (by omega)
      have hnE := (w_RNear h1 h2 h3 n (i : Int) v es hv).eq
      rw [if_pos hR] at hnE
      obtain ⟨o1, H1, x1, x2, x3, x4, _, _⟩ := OwnI.app1 ho ((nbR (i : Int) es).length : Int) (lt_of_get e0) (by simp; omega)
      have e1 : H1[0]? = some (.cells 0 false [.int .i64 n, v]) := by rw [x3 0 (by omega)]; exact e0
      simp [↓getD_z, ↓getD_s, -List.getD_eq_getElem?_getD, -Int.ofNat_toNat, -getElem?_pos, gz, ↓hid_k, ↓hid_o, ↓hid_q, ↓hid_v, ↓PO_nil, ↓PO_none, ↓PO_grd, ↓PD_nil, ↓PD_none, ↓PD_grd, ↓PDO_N, ↓PDO_X, ↓PDO_call, ↓PDO_calli, ↓PDO_callv, PDX_free, PDX_eq, ↓PStep_N, ↓PStep_X, ↓PStep_call, ↓PStep_calli, PStep_callv, ↓PC_skip, ↓PC_lab, ↓PC_ret, ↓PC_exit, ↓PC_reg, ↓PC_draw, ↓PC_seq, ↓PC_block, ↓PC_loop, ↓PC_scope, ↓PC_cond, ↓thenC_norm, ↓thenC_ret, ↓thenC_exit, ↓blockC_norm, ↓blockC_ret, ↓blockC_exit, ↓loopC_norm, ↓loopC_ret, ↓loopC_exit, ↓endR_ret, ↓endR_norm, resK_none, resK_t, resK_tt, KNO_val, KNO_new, KNO_ite, KNO_map, KXO_some, KXO_ite, KVA_t, KVA_f, KG_skip, KG_tt, KG_ff, KG_tf, KG_ft, KB_true, KB_false, KNOD_val, KNOD_new, KNOD_ite, n_mv, n_pick, n_bin, n_eqB, n_eqN, n_eqS, n_un, n_conv, n_fadd, n_faddV, n_fld1, n_fldN, n_idx, n_idxA, n_idxV, n_idxAV, n_ext, n_lenS, n_lenS0, n_lenV, n_lenT, n_lenA, n_min, n_max, n_build, n_mkfn, n_slc, n_slc0, n_slcV, n_slcA, n_load1, n_loadN, n_load1V, n_loadNV, n_alloc, n_box, n_bsl, n_mksl, n_nilcP, n_nilcV, n_nilcI, n_nilcF, x_store, x_clear0, x_clear, b_add, b_sub, b_mul, b_eql, b_neq, b_lss, b_leq, b_gtr, b_geq, b_and16, unV, ntouch, gather, hide, unhide, evalOpd, applyOuts, int_bne, int_beq, ite_bool, ite_int, one_bool, cells_bool, one_int, cells_int, one_str, cells_str, one_nilp, cells_nilp, one_ptr, cells_ptr, one_nils, cells_nils, one_sl, cells_sl, one_nilf, cells_nilf, one_fn, cells_fn, one_nili, cells_nili, one_mp, cells_mp, one_nilm, cells_nilm, one_iface, cells_iface, one_vs, cells_vs, one_vp, cells_vp, cells_agg, Nat.testBit, setAt_1, setAt_2, closeds_nil, closeds_cons, closed_bool, closed_int, closed_str, closed_nilp, closed_nils, closed_nilm, closed_nilf, closed_nili, closed_agg, closed_tup, closed_vs, closed_vp, closed_iface, closed_fn, closeds_cI, closeds_cE, viewA_closed, viewR_closed, AV.scal, AV.scal0, fillA, repA, part_bool, part_int, part_str, part_nilp, part_ptr, part_nils, part_sl, part_nilm, part_mp, part_nilf, part_fn, part_nili, part_iface, part_agg, part_vs, part_vp, viewA_sl1, vaSl_cells, wrap_0, wrap_1, wrap_2, wrap_m1, set_last, get_last, er13_0, er13_1, er13_2, er13_3, er13_4, er13_5, er13_6, er13_7, er13_9, hlt, e0, hcl, hnE, sortI_len, x1, hw1]
      exact next_mk (m - 1) (by omega) ⟨i + 1, o1, _, H1, by omega, by simpa [OwnI, List.range_succ] using x2, e1, rfl⟩
    · have hm : n.toNat = i := by omega
      have hd : degs n es = (List.range i).map fun (v : Nat) => ((nbR (v : Int) es).length : Int) := by unfold degs; rw [hm]
      simp [↓getD_z, ↓getD_s, -List.getD_eq_getElem?_getD, -Int.ofNat_toNat, -getElem?_pos, gz, ↓hid_k, ↓hid_o, ↓hid_q, ↓hid_v, ↓PO_nil, ↓PO_none, ↓PO_grd, ↓PD_nil, ↓PD_none, ↓PD_grd, ↓PDO_N, ↓PDO_X, ↓PDO_call, ↓PDO_calli, ↓PDO_callv, PDX_free, PDX_eq, ↓PStep_N, ↓PStep_X, ↓PStep_call, ↓PStep_calli, PStep_callv, ↓PC_skip, ↓PC_lab, ↓PC_ret, ↓PC_exit, ↓PC_reg, ↓PC_draw, ↓PC_seq, ↓PC_block, ↓PC_loop, ↓PC_scope, ↓PC_cond, ↓thenC_norm, ↓thenC_ret, ↓thenC_exit, ↓blockC_norm, ↓blockC_ret, ↓blockC_exit, ↓loopC_norm, ↓loopC_ret, ↓loopC_exit, ↓endR_ret, ↓endR_norm, resK_none, resK_t, resK_tt, KNO_val, KNO_new, KNO_ite, KNO_map, KXO_some, KXO_ite, KVA_t, KVA_f, KG_skip, KG_tt, KG_ff, KG_tf, KG_ft, KB_true, KB_false, KNOD_val, KNOD_new, KNOD_ite, n_mv, n_pick, n_bin, n_eqB, n_eqN, n_eqS, n_un, n_conv, n_fadd, n_faddV, n_fld1, n_fldN, n_idx, n_idxA, n_idxV, n_idxAV, n_ext, n_lenS, n_lenS0, n_lenV, n_lenT, n_lenA, n_min, n_max, n_build, n_mkfn, n_slc, n_slc0, n_slcV, n_slcA, n_load1, n_loadN, n_load1V, n_loadNV, n_alloc, n_box, n_bsl, n_mksl, n_nilcP, n_nilcV, n_nilcI, n_nilcF, x_store, x_clear0, x_clear, b_add, b_sub, b_mul, b_eql, b_neq, b_lss, b_leq, b_gtr, b_geq, b_and16, unV, ntouch, gather, hide, unhide, evalOpd, applyOuts, int_bne, int_beq, ite_bool, ite_int, one_bool, cells_bool, one_int, cells_int, one_str, cells_str, one_nilp, cells_nilp, one_ptr, cells_ptr, one_nils, cells_nils, one_sl, cells_sl, one_nilf, cells_nilf, one_fn, cells_fn, one_nili, cells_nili, one_mp, cells_mp, one_nilm, cells_nilm, one_iface, cells_iface, one_vs, cells_vs, one_vp, cells_vp, cells_agg, Nat.testBit, setAt_1, setAt_2, closeds_nil, closeds_cons, closed_bool, closed_int, closed_str, closed_nilp, closed_nils, closed_nilm, closed_nilf, closed_nili, closed_agg, closed_tup, closed_vs, closed_vp, closed_iface, closed_fn, closeds_cI, closeds_cE, viewA_closed, viewR_closed, AV.scal, AV.scal0, fillA, repA, part_bool, part_int, part_str, part_nilp, part_ptr, part_nils, part_sl, part_nilm, part_mp, part_nilf, part_fn, part_nili, part_iface, part_agg, part_vs, part_vp, viewA_sl1, vaSl_cells, wrap_0, wrap_1, wrap_2, wrap_m1, set_last, get_last, er13_0, er13_1, er13_2, er13_3, er13_4, er13_5, er13_6, er13_7, er13_9, hlt, e0, ho.view, rv_false, hd]
  · rw [if_neg hR]
    simp only [Bool.not_eq_true] at hR
    refine pval_has h rfl ?_
    simp only [l13_8, b13, f13]
    simp [↓getD_z, ↓getD_s, -List.getD_eq_getElem?_getD, -Int.ofNat_toNat, -getElem?_pos, gz, ↓hid_k, ↓hid_o, ↓hid_q, ↓hid_v, ↓PO_nil, ↓PO_none, ↓PO_grd, ↓PD_nil, ↓PD_none, ↓PD_grd, ↓PDO_N, ↓PDO_X, ↓PDO_call, ↓PDO_calli, ↓PDO_callv, PDX_free, PDX_eq, ↓PStep_N, ↓PStep_X, ↓PStep_call, ↓PStep_calli, PStep_callv, ↓PC_skip, ↓PC_lab, ↓PC_ret, ↓PC_exit, ↓PC_reg, ↓PC_draw, ↓PC_seq, ↓PC_block, ↓PC_loop, ↓PC_scope, ↓PC_cond, ↓thenC_norm, ↓thenC_ret, ↓thenC_exit, ↓blockC_norm, ↓blockC_ret, ↓blockC_exit, ↓loopC_norm, ↓loopC_ret, ↓loopC_exit, ↓endR_ret, ↓endR_norm, resK_none, resK_t, resK_tt, KNO_val, KNO_new, KNO_ite, KNO_map, KXO_some, KXO_ite, KVA_t, KVA_f, KG_skip, KG_tt, KG_ff, KG_tf, KG_ft, KB_true, KB_false, KNOD_val, KNOD_new, KNOD_ite, n_mv, n_pick, n_bin, n_eqB, n_eqN, n_eqS, n_un, n_conv, n_fadd, n_faddV, n_fld1, n_fldN, n_idx, n_idxA, n_idxV, n_idxAV, n_ext, n_lenS, n_lenS0, n_lenV, n_lenT, n_lenA, n_min, n_max, n_build, n_mkfn, n_slc, n_slc0, n_slcV, n_slcA, n_load1, n_loadN, n_load1V, n_loadNV, n_alloc, n_box, n_bsl, n_mksl, n_nilcP, n_nilcV, n_nilcI, n_nilcF, x_store, x_clear0, x_clear, b_add, b_sub, b_mul, b_eql, b_neq, b_lss, b_leq, b_gtr, b_geq, b_and16, unV, ntouch, gather, hide, unhide, evalOpd, applyOuts, int_bne, int_beq, ite_bool, ite_int, one_bool, cells_bool, one_int, cells_int, one_str, cells_str, one_nilp, cells_nilp, one_ptr, cells_ptr, one_nils, cells_nils, one_sl, cells_sl, one_nilf, cells_nilf, one_fn, cells_fn, one_nili, cells_nili, one_mp, cells_mp, one_nilm, cells_nilm, one_iface, cells_iface, one_vs, cells_vs, one_vp, cells_vp, cells_agg, Nat.testBit, setAt_1, setAt_2, closeds_nil, closeds_cons, closed_bool, closed_int, closed_str, closed_nilp, closed_nils, closed_nilm, closed_nilf, closed_nili, closed_agg, closed_tup, closed_vs, closed_vp, closed_iface, closed_fn, closeds_cI, closeds_cE, viewA_closed, viewR_closed, AV.scal, AV.scal0, fillA, repA, part_bool, part_int, part_str, part_nilp, part_ptr, part_nils, part_sl, part_nilm, part_mp, part_nilf, part_fn, part_nili, part_iface, part_agg, part_vs, part_vp, viewA_sl1, vaSl_cells, wrap_0, wrap_1, wrap_2, wrap_m1, set_last, get_last, er13_0, er13_1, er13_2, er13_3, er13_4, er13_5, er13_6, er13_7, er13_9, hone, hlen, hcl, hr, hR, viewR_def, viewV_sl0, reachV_sl0, fuelV, frzH_nil, cI]
/-- How often a vertex stands at an end. -/
def cnt (v : Int) (es : List Ed) : Nat := es.countP (fun x => decide (x.1 = v)) + es.countP (fun x => decide (x.2 = v))
theorem cnt_nbR (v : Int) (es : List Ed) : (nbR v es).length = cnt v es := by
  induction es with
  | nil => rfl
  | cons x l ih =>
    have : nbR v (x :: l) = nbr v x ++ nbR v l := by simp [nbR]
    rw [this, List.length_append, ih]
    unfold cnt nbr
    rw [List.countP_cons, List.countP_cons]
    by_cases h1 : x.1 = v <;> by_cases h2 : x.2 = v <;> simp [h1, h2] <;> omega
theorem cnt_snoc (v : Int) (es : List Ed) (x : Ed) : cnt v (es ++ [x]) = cnt v es + (if x.1 = v then 1 else 0) + (if x.2 = v then 1 else 0) := by
  unfold cnt
  rw [List.countP_append, List.countP_append]
  by_cases h1 : x.1 = v <;> by_cases h2 : x.2 = v <;> simp [h1, h2] <;> omega
def degC (N : Nat) (es : List Ed) : List Int := (List.range N).map fun (v : Nat) => (cnt (v : Int) es : Int)
theorem degs_C (n : Int) (es : List Ed) : degs n es = degC n.toNat es := by
  unfold degs degC
  congr 1
  funext v
  rw [cnt_nbR]
theorem degC_get {N : Nat} {es : List Ed} {k : Nat} (h : k < N) : (cI (degC N es))[k]? = some (.int .i64 (cnt (k : Int) es)) := by simp [cI, degC, h]
theorem right_step {n : Int} {es : List Ed} (h : rightE n es = true) {i : Nat} (hi : i < es.length) : 0 ≤ es[i].1 ∧ es[i].1 < es[i].2 ∧ es[i].2 < n := by
  unfold rightE at h
  simp only [Bool.and_eq_true] at h
  have := List.all_eq_true.1 h.2 i (List.mem_range.2 hi)
  simp only [stepE, List.getD_eq_getElem?_getD, List.getElem?_eq_getElem hi, Option.getD_some, Bool.and_eq_true, decide_eq_true_eq] at this
  exact ⟨this.1.1.1, this.1.1.2, this.1.2⟩
set_option maxHeartbeats 1000000 in
theorem w_Degrees (h : Has A (φ 12) (f12 φ)) (h2 : ∀ n v es, IsE v es → PVal A (φ 4) [gV n v] (.bool (rightE n es))) (n : Int) (v : AV) (es : List Ed) (hv : IsE v es) :
    PVal A (φ 12) [gV n v] (if rightE n es then vI (degs n es) else .nils) := by
  have hlen := hv.len
  have hone := hv.one
  have hcl := hv.closed
  have hr := (h2 n v es hv).eq
  by_cases hR : rightE n es = true
  · have hl := right_len hR
    rw [if_pos hR, degs_C]
    refine pval_has h rfl ?_
    simp only [l12_10, b12, f12]
    have c1 : 0 ≤ n := by omega
    have c2 : n ≤ 4294967296 := by omega
    have c3 : n * 8 ≤ 140737488355328 := by omega
    simp [↓getD_z, ↓getD_s, -List.getD_eq_getElem?_getD, -Int.ofNat_toNat, -getElem?_pos, gz, ↓hid_k, ↓hid_o, ↓hid_q, ↓hid_v, ↓PO_nil, ↓PO_none, ↓PO_grd, ↓PD_nil, ↓PD_none, ↓PD_grd, ↓PDO_N, ↓PDO_X, ↓PDO_call, ↓PDO_calli, ↓PDO_callv, PDX_free, PDX_eq, ↓PStep_N, ↓PStep_X, ↓PStep_call, ↓PStep_calli, PStep_callv, ↓PC_skip, ↓PC_lab, ↓PC_ret, ↓PC_exit, ↓PC_reg, ↓PC_draw, ↓PC_seq, ↓PC_block, ↓PC_loop, ↓PC_scope, ↓PC_cond, ↓thenC_norm, ↓thenC_ret, ↓thenC_exit, ↓blockC_norm, ↓blockC_ret, ↓blockC_exit, ↓loopC_norm, ↓loopC_ret, ↓loopC_exit, ↓endR_ret, ↓endR_norm, resK_none, resK_t, resK_tt, KNO_val, KNO_new, KNO_ite, KNO_map, KXO_some, KXO_ite, KVA_t, KVA_f, KG_skip, KG_tt, KG_ff, KG_tf, KG_ft, KB_true, KB_false, KNOD_val, KNOD_new, KNOD_ite, n_mv, n_pick, n_bin, n_eqB, n_eqN, n_eqS, n_un, n_conv, n_fadd, n_faddV, n_fld1, n_fldN, n_idx, n_idxA, n_idxV, n_idxAV, n_ext, n_lenS, n_lenS0, n_lenV, n_lenT, n_lenA, n_min, n_max, n_build, n_mkfn, n_slc, n_slc0, n_slcV, n_slcA, n_load1, n_loadN, n_load1V, n_loadNV, n_alloc, n_box, n_bsl, n_mksl, n_nilcP, n_nilcV, n_nilcI, n_nilcF, x_store, x_clear0, x_clear, b_add, b_sub, b_mul, b_eql, b_neq, b_lss, b_leq, b_gtr, b_geq, b_and16, unV, ntouch, gather, hide, unhide, evalOpd, applyOuts, int_bne, int_beq, ite_bool, ite_int, one_bool, cells_bool, one_int, cells_int, one_str, cells_str, one_nilp, cells_nilp, one_ptr, cells_ptr, one_nils, cells_nils, one_sl, cells_sl, one_nilf, cells_nilf, one_fn, cells_fn, one_nili, cells_nili, one_mp, cells_mp, one_nilm, cells_nilm, one_iface, cells_iface, one_vs, cells_vs, one_vp, cells_vp, cells_agg, Nat.testBit, setAt_1, setAt_2, closeds_nil, closeds_cons, closed_bool, closed_int, closed_str, closed_nilp, closed_nils, closed_nilm, closed_nilf, closed_nili, closed_agg, closed_tup, closed_vs, closed_vp, closed_iface, closed_fn, closeds_cI, closeds_cE, viewA_closed, viewR_closed, AV.scal, AV.scal0, fillA, repA, part_bool, part_int, part_str, part_nilp, part_ptr, part_nils, part_sl, part_nilm, part_mp, part_nilf, part_fn, part_nili, part_iface, part_agg, part_vs, part_vp, viewA_sl1, vaSl_cells, wrap_0, wrap_1, wrap_2, wrap_m1, set_last, get_last, er12_0, er12_1, er12_2, er12_3, er12_4, er12_5, er12_6, er12_7, er12_8, er12_9, er12_11, hone, hlen, hcl, hr, hR, c1, c2, c3, repA_repl]
    have hinit : cI (degC n.toNat []) = List.replicate n.toNat (.int .i64 0) := by
      unfold degC cI cnt
      apply List.ext_getElem?
      intro i
      by_cases hi : i < n.toNat <;> simp [hi]
    refine pc_loopI (fun m st => ∃ (i : Nat) (p q : AV) (H : Heap), i + m = es.length ∧ H[0]? = some (.cells 0 false [.int .i64 n, v]) ∧ H[1]? = some (.cells 0 false (cI (degC n.toNat (es.take i)))) ∧
      st = ([gV n v, .ptr 0 0 0, .nils, .sl 1 0 0 n.toNat 1 n.toNat true, p, .bool false, v, .int .i64 es.length, .int .i64 i, q], H)) es.length ⟨0, _, _, _, by simp, rfl, by simp [hinit], rfl⟩ ?_
    rintro m st ⟨i, p, q, H, hi, e0, e1, rfl⟩
    by_cases hlt : i < es.length
    · have hlt' : (i : Int) < es.length := by omega
      obtain ⟨i1, g1', g2', le1, t1⟩ := hv.at hlt
      have hw1 := wrap1 hlt (by omega)
      obtain ⟨z1, z2, z3⟩ := right_step hR hlt
      have hsn := fun k => cnt_snoc k (es.take i) es[i]
      rw [← List.take_succ_eq_append_getElem hlt] at hsn
      obtain ⟨x, hx⟩ : ∃ x : Nat, es[i].1 = (x : Int) := ⟨es[i].1.toNat, by omega⟩
      obtain ⟨y, hy⟩ : ∃ y : Nat, es[i].2 = (y : Int) := ⟨es[i].2.toNat, by omega⟩
      rw [hx] at z1 z2 g1' t1; rw [hy] at z2 z3 g2' t1; simp only [hx, hy] at hsn
      have hxN : x < n.toNat := by omega
      have hyN : y < n.toNat := by omega
      have hxN' : (x : Int) < n := by omega
      have hyN' : (y : Int) < n := by omega
      have hxy : ¬ x = y := by omega
      have hb : ∀ k, cnt k (es.take i) ≤ 2 * es.length := by
        intro k; rw [← cnt_nbR]
        have := nbR_len k (es.take i)
        simp at this; omega
      have hbx := hb (x : Int); have hby := hb (y : Int)
      have wx : IntKind.i64.wrap ((cnt (x : Int) (es.take i) : Int) + 1) = ((cnt (x : Int) (es.take i) + 1 : Nat) : Int) := wrap1 (n := 100000) (by omega) (by omega)
      have wy : IntKind.i64.wrap ((cnt (y : Int) (es.take i) : Int) + 1) = ((cnt (y : Int) (es.take i) + 1 : Nat) : Int) := wrap1 (n := 100000) (by omega) (by omega)
      have gx := degC_get (es := es.take i) hxN
      have gy := degC_get (es := es.take i) hyN
      have hcl2 : (cI (degC n.toNat (es.take i))).length = n.toNat := by simp [cI, degC]
      have gy2 : ((cI (degC n.toNat (es.take i))).set x (.int .i64 ((cnt (x : Int) (es.take i) + 1 : Nat) : Int)))[y]? = some (.int .i64 (cnt (y : Int) (es.take i))) := by rw [List.getElem?_set_ne hxy]; exact gy
      have s1 := setAt_one (c := cI (degC n.toNat (es.take i))) (o := x) (.int .i64 ((cnt (x : Int) (es.take i) + 1 : Nat) : Int)) (by omega)
      have s2 := setAt_one (c := (cI (degC n.toNat (es.take i))).set x (.int .i64 ((cnt (x : Int) (es.take i) + 1 : Nat) : Int))) (o := y) (.int .i64 ((cnt (y : Int) (es.take i) + 1 : Nat) : Int)) (by simp; omega)
      have hfin : ((cI (degC n.toNat (es.take i))).set x (.int .i64 ((cnt (x : Int) (es.take i) + 1 : Nat) : Int))).set y (.int .i64 ((cnt (y : Int) (es.take i) + 1 : Nat) : Int)) = cI (degC n.toNat (es.take (i + 1))) := by
        apply List.ext_getElem?
        intro k
        rw [List.getElem?_set, List.getElem?_set]
        by_cases hk : k < n.toNat
        · have hR2 := degC_get (es := es.take (i + 1)) hk
          rw [hsn] at hR2
          rw [hR2]
          by_cases e1 : y = k
          · subst e1
            rw [if_pos rfl, if_pos (by simp; omega)]
            rw [if_neg (by omega : ¬ (x : Int) = y), if_pos rfl]
          · rw [if_neg e1]
            by_cases e2 : x = k
            · subst e2
              rw [if_pos rfl, if_pos (by omega), if_pos rfl, if_neg (by omega : ¬ (y : Int) = x)]
            · rw [if_neg e2, if_neg (by omega : ¬ (x : Int) = k), if_neg (by omega : ¬ (y : Int) = k)]
              exact degC_get hk
        · rw [if_neg (by omega : ¬ y = k), if_neg (by omega : ¬ x = k), List.getElem?_eq_none (by simp [cI, degC]; omega), List.getElem?_eq_none (by simp [cI, degC]; omega)]
      generalize cnt (x : Int) (es.take i) + 1 = cx at *
      generalize cnt (y : Int) (es.take i) + 1 = cy at *
      generalize cI (degC n.toNat (es.take i)) = C at *
      have gx2 := (List.getElem?_eq_some_iff.1 gx).2
      have gy3 := (List.getElem?_eq_some_iff.1 gy2).2
      have l0 := lt_of_get e0
      have l1 := lt_of_get e1
      simp [↓getD_z, ↓getD_s, -List.getD_eq_getElem?_getD, -Int.ofNat_toNat, -getElem?_pos, gz, ↓hid_k, ↓hid_o, ↓hid_q, ↓hid_v, ↓PO_nil, ↓PO_none, ↓PO_grd, ↓PD_nil, ↓PD_none, ↓PD_grd, ↓PDO_N, ↓PDO_X, ↓PDO_call, ↓PDO_calli, ↓PDO_callv, PDX_free, PDX_eq, ↓PStep_N, ↓PStep_X, ↓PStep_call, ↓PStep_calli, PStep_callv, ↓PC_skip, ↓PC_lab, ↓PC_ret, ↓PC_exit, ↓PC_reg, ↓PC_draw, ↓PC_seq, ↓PC_block, ↓PC_loop, ↓PC_scope, ↓PC_cond, ↓thenC_norm, ↓thenC_ret, ↓thenC_exit, ↓blockC_norm, ↓blockC_ret, ↓blockC_exit, ↓loopC_norm, ↓loopC_ret, ↓loopC_exit, ↓endR_ret, ↓endR_norm, resK_none, resK_t, resK_tt, KNO_val, KNO_new, KNO_ite, KNO_map, KXO_some, KXO_ite, KVA_t, KVA_f, KG_skip, KG_tt, KG_ff, KG_tf, KG_ft, KB_true, KB_false, KNOD_val, KNOD_new, KNOD_ite, n_mv, n_pick, n_bin, n_eqB, n_eqN, n_eqS, n_un, n_conv, n_fadd, n_faddV, n_fld1, n_fldN, n_idx, n_idxA, n_idxV, n_idxAV, n_ext, n_lenS, n_lenS0, n_lenV, n_lenT, n_lenA, n_min, n_max, n_build, n_mkfn, n_slc, n_slc0, n_slcV, n_slcA, n_load1, n_loadN, n_load1V, n_loadNV, n_alloc, n_box, n_bsl, n_mksl, n_nilcP, n_nilcV, n_nilcI, n_nilcF, x_store, x_clear0, x_clear, b_add, b_sub, b_mul, b_eql, b_neq, b_lss, b_leq, b_gtr, b_geq, b_and16, unV, ntouch, gather, hide, unhide, evalOpd, applyOuts, int_bne, int_beq, ite_bool, ite_int, one_bool, cells_bool, one_int, cells_int, one_str, cells_str, one_nilp, cells_nilp, one_ptr, cells_ptr, one_nils, cells_nils, one_sl, cells_sl, one_nilf, cells_nilf, one_fn, cells_fn, one_nili, cells_nili, one_mp, cells_mp, one_nilm, cells_nilm, one_iface, cells_iface, one_vs, cells_vs, one_vp, cells_vp, cells_agg, Nat.testBit, setAt_1, setAt_2, closeds_nil, closeds_cons, closed_bool, closed_int, closed_str, closed_nilp, closed_nils, closed_nilm, closed_nilf, closed_nili, closed_agg, closed_tup, closed_vs, closed_vp, closed_iface, closed_fn, closeds_cI, closeds_cE, viewA_closed, viewR_closed, AV.scal, AV.scal0, fillA, repA, part_bool, part_int, part_str, part_nilp, part_ptr, part_nils, part_sl, part_nilm, part_mp, part_nilf, part_fn, part_nili, part_iface, part_agg, part_vs, part_vp, viewA_sl1, vaSl_cells, wrap_0, wrap_1, wrap_2, wrap_m1, set_last, get_last, er12_0, er12_1, er12_2, er12_3, er12_4, er12_5, er12_6, hlt', i1, le1, t1]
      have e0' := get_more [Ob.cells 0 false [AV.int IntKind.i64 x, AV.int IntKind.i64 y]] e0
      have e1' := get_more [Ob.cells 0 false [AV.int IntKind.i64 x, AV.int IntKind.i64 y]] e1
      have e2' := get_last H (Ob.cells 0 false [AV.int IntKind.i64 x, AV.int IntKind.i64 y])
      have hne : ¬ H.length = 1 := by omega
      generalize H.length = hl0 at *
      generalize H ++ [Ob.cells 0 false [AV.int IntKind.i64 x, AV.int IntKind.i64 y]] = H1 at *
      have hset : ∀ z, (H1.set 1 z)[1]? = some z := fun z => List.getElem?_set_self (lt_of_get e1')
      have hset2 : ∀ z, (H1.set 1 z)[hl0]? = some (Ob.cells 0 false [AV.int IntKind.i64 x, AV.int IntKind.i64 y]) := fun z => by rw [List.getElem?_set_ne (by omega)]; exact e2'
      simp [↓getD_z, ↓getD_s, -List.getD_eq_getElem?_getD, -Int.ofNat_toNat, -getElem?_pos, gz, ↓hid_k, ↓hid_o, ↓hid_q, ↓hid_v, ↓PO_nil, ↓PO_none, ↓PO_grd, ↓PD_nil, ↓PD_none, ↓PD_grd, ↓PDO_N, ↓PDO_X, ↓PDO_call, ↓PDO_calli, ↓PDO_callv, PDX_free, PDX_eq, ↓PStep_N, ↓PStep_X, ↓PStep_call, ↓PStep_calli, PStep_callv, ↓PC_skip, ↓PC_lab, ↓PC_ret, ↓PC_exit, ↓PC_reg, ↓PC_draw, ↓PC_seq, ↓PC_block, ↓PC_loop, ↓PC_scope, ↓PC_cond, ↓thenC_norm, ↓thenC_ret, ↓thenC_exit, ↓blockC_norm, ↓blockC_ret, ↓blockC_exit, ↓loopC_norm, ↓loopC_ret, ↓loopC_exit, ↓endR_ret, ↓endR_norm, resK_none, resK_t, resK_tt, KNO_val, KNO_new, KNO_ite, KNO_map, KXO_some, KXO_ite, KVA_t, KVA_f, KG_skip, KG_tt, KG_ff, KG_tf, KG_ft, KB_true, KB_false, KNOD_val, KNOD_new, KNOD_ite, n_mv, n_pick, n_bin, n_eqB, n_eqN, n_eqS, n_un, n_conv, n_fadd, n_faddV, n_fld1, n_fldN, n_idx, n_idxA, n_idxV, n_idxAV, n_ext, n_lenS, n_lenS0, n_lenV, n_lenT, n_lenA, n_min, n_max, n_build, n_mkfn, n_slc, n_slc0, n_slcV, n_slcA, n_load1, n_loadN, n_load1V, n_loadNV, n_alloc, n_box, n_bsl, n_mksl, n_nilcP, n_nilcV, n_nilcI, n_nilcF, x_store, x_clear0, x_clear, b_add, b_sub, b_mul, b_eql, b_neq, b_lss, b_leq, b_gtr, b_geq, b_and16, unV, ntouch, gather, hide, unhide, evalOpd, applyOuts, int_bne, int_beq, ite_bool, ite_int, one_bool, cells_bool, one_int, cells_int, one_str, cells_str, one_nilp, cells_nilp, one_ptr, cells_ptr, one_nils, cells_nils, one_sl, cells_sl, one_nilf, cells_nilf, one_fn, cells_fn, one_nili, cells_nili, one_mp, cells_mp, one_nilm, cells_nilm, one_iface, cells_iface, one_vs, cells_vs, one_vp, cells_vp, cells_agg, Nat.testBit, setAt_1, setAt_2, closeds_nil, closeds_cons, closed_bool, closed_int, closed_str, closed_nilp, closed_nils, closed_nilm, closed_nilf, closed_nili, closed_agg, closed_tup, closed_vs, closed_vp, closed_iface, closed_fn, closeds_cI, closeds_cE, viewA_closed, viewR_closed, AV.scal, AV.scal0, fillA, repA, part_bool, part_int, part_str, part_nilp, part_ptr, part_nils, part_sl, part_nilm, part_mp, part_nilf, part_fn, part_nili, part_iface, part_agg, part_vs, part_vp, viewA_sl1, vaSl_cells, wrap_0, wrap_1, wrap_2, wrap_m1, set_last, get_last, er12_0, er12_1, er12_2, er12_3, er12_4, er12_5, er12_6, er12_7, er12_8, er12_9, er12_11, hlt', e1', e2', hxN', hyN', hxN, hyN, gx, gy, gy2, gx2, gy3, wx, wy, s1, s2, hset, hset2, hw1, hcl2, hfin]
      exact ⟨by omega, by omega, next_mk (m - 1) (by omega) ⟨i + 1, _, _, _, by omega, by rw [List.getElem?_set_ne (by omega)]; exact e0', hset _, rfl⟩⟩
    · have hlt' : ¬ (i : Int) < es.length := by omega
      have hm : es.take i = es := List.take_of_length_le (by omega)
      rw [hm] at e1
      have ho : OwnI false 1 H (.sl 1 0 0 n.toNat 1 n.toNat true) (degC n.toNat es) := by
        have hlc : (degC n.toNat es).length = n.toNat := by simp [degC]
        have := own_new (sz := 1) (ex := true) (Nat.le_refl 1) (c := cI (degC n.toNat es)) (n := n.toNat) (by rw [cI_len, hlc]; omega) e1 (fun _ => rfl)
        rw [OwnI, hlc]; exact this
      simp [↓getD_z, ↓getD_s, -List.getD_eq_getElem?_getD, -Int.ofNat_toNat, -getElem?_pos, gz, ↓hid_k, ↓hid_o, ↓hid_q, ↓hid_v, ↓PO_nil, ↓PO_none, ↓PO_grd, ↓PD_nil, ↓PD_none, ↓PD_grd, ↓PDO_N, ↓PDO_X, ↓PDO_call, ↓PDO_calli, ↓PDO_callv, PDX_free, PDX_eq, ↓PStep_N, ↓PStep_X, ↓PStep_call, ↓PStep_calli, PStep_callv, ↓PC_skip, ↓PC_lab, ↓PC_ret, ↓PC_exit, ↓PC_reg, ↓PC_draw, ↓PC_seq, ↓PC_block, ↓PC_loop, ↓PC_scope, ↓PC_cond, ↓thenC_norm, ↓thenC_ret, ↓thenC_exit, ↓blockC_norm, ↓blockC_ret, ↓blockC_exit, ↓loopC_norm, ↓loopC_ret, ↓loopC_exit, ↓endR_ret, ↓endR_norm, resK_none, resK_t, resK_tt, KNO_val, KNO_new, KNO_ite, KNO_map, KXO_some, KXO_ite, KVA_t, KVA_f, KG_skip, KG_tt, KG_ff, KG_tf, KG_ft, KB_true, KB_false, KNOD_val, KNOD_new, KNOD_ite, n_mv, n_pick, n_bin, n_eqB, n_eqN, n_eqS, n_un, n_conv, n_fadd, n_faddV, n_fld1, n_fldN, n_idx, n_idxA, n_idxV, n_idxAV, n_ext, n_lenS, n_lenS0, n_lenV, n_lenT, n_lenA, n_min, n_max, n_build, n_mkfn, n_slc, n_slc0, n_slcV, n_slcA, n_load1, n_loadN, n_load1V, n_loadNV, n_alloc, n_box, n_bsl, n_mksl, n_nilcP, n_nilcV, n_nilcI, n_nilcF, x_store, x_clear0, x_clear, b_add, b_sub, b_mul, b_eql, b_neq, b_lss, b_leq, b_gtr, b_geq, b_and16, unV, ntouch, gather, hide, unhide, evalOpd, applyOuts, int_bne, int_beq, ite_bool, ite_int, one_bool, cells_bool, one_int, cells_int, one_str, cells_str, one_nilp, cells_nilp, one_ptr, cells_ptr, one_nils, cells_nils, one_sl, cells_sl, one_nilf, cells_nilf, one_fn, cells_fn, one_nili, cells_nili, one_mp, cells_mp, one_nilm, cells_nilm, one_iface, cells_iface, one_vs, cells_vs, one_vp, cells_vp, cells_agg, Nat.testBit, setAt_1, setAt_2, closeds_nil, closeds_cons, closed_bool, closed_int, closed_str, closed_nilp, closed_nils, closed_nilm, closed_nilf, closed_nili, closed_agg, closed_tup, closed_vs, closed_vp, closed_iface, closed_fn, closeds_cI, closeds_cE, viewA_closed, viewR_closed, AV.scal, AV.scal0, fillA, repA, part_bool, part_int, part_str, part_nilp, part_ptr, part_nils, part_sl, part_nilm, part_mp, part_nilf, part_fn, part_nili, part_iface, part_agg, part_vs, part_vp, viewA_sl1, vaSl_cells, wrap_0, wrap_1, wrap_2, wrap_m1, set_last, get_last, er12_0, er12_1, er12_2, er12_3, er12_4, er12_5, er12_6, er12_7, er12_8, er12_9, er12_11, hlt', ho.view, rv_false]
  · rw [if_neg hR]
    simp only [Bool.not_eq_true] at hR
    refine pval_has h rfl ?_
    simp only [l12_10, b12, f12]
    simp [↓getD_z, ↓getD_s, -List.getD_eq_getElem?_getD, -Int.ofNat_toNat, -getElem?_pos, gz, ↓hid_k, ↓hid_o, ↓hid_q, ↓hid_v, ↓PO_nil, ↓PO_none, ↓PO_grd, ↓PD_nil, ↓PD_none, ↓PD_grd, ↓PDO_N, ↓PDO_X, ↓PDO_call, ↓PDO_calli, ↓PDO_callv, PDX_free, PDX_eq, ↓PStep_N, ↓PStep_X, ↓PStep_call, ↓PStep_calli, PStep_callv, ↓PC_skip, ↓PC_lab, ↓PC_ret, ↓PC_exit, ↓PC_reg, ↓PC_draw, ↓PC_seq, ↓PC_block, ↓PC_loop, ↓PC_scope, ↓PC_cond, ↓thenC_norm, ↓thenC_ret, ↓thenC_exit, ↓blockC_norm, ↓blockC_ret, ↓blockC_exit, ↓loopC_norm, ↓loopC_ret, ↓loopC_exit, ↓endR_ret, ↓endR_norm, resK_none, resK_t, resK_tt, KNO_val, KNO_new, KNO_ite, KNO_map, KXO_some, KXO_ite, KVA_t, KVA_f, KG_skip, KG_tt, KG_ff, KG_tf, KG_ft, KB_true, KB_false, KNOD_val, KNOD_new, KNOD_ite, n_mv, n_pick, n_bin, n_eqB, n_eqN, n_eqS, n_un, n_conv, n_fadd, n_faddV, n_fld1, n_fldN, n_idx, n_idxA, n_idxV, n_idxAV, n_ext, n_lenS, n_lenS0, n_lenV, n_lenT, n_lenA, n_min, n_max, n_build, n_mkfn, n_slc, n_slc0, n_slcV, n_slcA, n_load1, n_loadN, n_load1V, n_loadNV, n_alloc, n_box, n_bsl, n_mksl, n_nilcP, n_nilcV, n_nilcI, n_nilcF, x_store, x_clear0, x_clear, b_add, b_sub, b_mul, b_eql, b_neq, b_lss, b_leq, b_gtr, b_geq, b_and16, unV, ntouch, gather, hide, unhide, evalOpd, applyOuts, int_bne, int_beq, ite_bool, ite_int, one_bool, cells_bool, one_int, cells_int, one_str, cells_str, one_nilp, cells_nilp, one_ptr, cells_ptr, one_nils, cells_nils, one_sl, cells_sl, one_nilf, cells_nilf, one_fn, cells_fn, one_nili, cells_nili, one_mp, cells_mp, one_nilm, cells_nilm, one_iface, cells_iface, one_vs, cells_vs, one_vp, cells_vp, cells_agg, Nat.testBit, setAt_1, setAt_2, closeds_nil, closeds_cons, closed_bool, closed_int, closed_str, closed_nilp, closed_nils, closed_nilm, closed_nilf, closed_nili, closed_agg, closed_tup, closed_vs, closed_vp, closed_iface, closed_fn, closeds_cI, closeds_cE, viewA_closed, viewR_closed, AV.scal, AV.scal0, fillA, repA, part_bool, part_int, part_str, part_nilp, part_ptr, part_nils, part_sl, part_nilm, part_mp, part_nilf, part_fn, part_nili, part_iface, part_agg, part_vs, part_vp, viewA_sl1, vaSl_cells, wrap_0, wrap_1, wrap_2, wrap_m1, set_last, get_last, er12_0, er12_1, er12_2, er12_3, er12_4, er12_5, er12_6, er12_7, er12_8, er12_9, er12_11, hone, hlen, hcl, hr, hR]
end Go.Ai.G
namespace Go.Ai.G
open Go.Ai
set_option maxRecDepth 100000
set_option linter.unusedSimpArgs false
set_option linter.unusedVariables false
variable {A : AProg} {φ : Nat → Nat}
theorem er32_0 (φ : Nat → Nat) : r32_0 φ = [
  ⟨0, .N .mv, [.c (.nils)], none, 0⟩] := Eq.trans rfl rfl
theorem er32_1 (φ : Nat → Nat) : r32_1 φ = [
  ⟨0, .N .mv, [.n 0], none, 0⟩,
  ⟨1, .N (.eqN 1 false), [.l 0, .c (.nils)], none, 0⟩] := Eq.trans rfl rfl
theorem er32_2 (φ : Nat → Nat) : r32_2 φ = [
  ⟨0, .N .mv, [.c (.nils)], none, 0⟩] := Eq.trans rfl rfl
theorem er32_3 (φ : Nat → Nat) : r32_3 φ = [
  ⟨0, .N (.bsl [.int .i64 0, .int .i64 0] 0 2 []), [], none, 0⟩,
  ⟨1, .N .mv, [.n 0], none, 0⟩,
  ⟨2, .X (.app 2 16), [.l 1, .l 0], none, 0⟩,
  ⟨3, .N .mv, [.l 0], none, 0⟩] := Eq.trans rfl rfl
theorem er33_0 (φ : Nat → Nat) : r33_0 φ = [
  ⟨0, .N .box, [.n 1], none, 0⟩,
  ⟨1, .N .mv, [.c (.int .i64 0)], none, 0⟩] := Eq.trans rfl rfl
theorem er33_1 (φ : Nat → Nat) : r33_1 φ = [
  ⟨0, .N .mv, [.n 0], none, 0⟩,
  ⟨1, .N .lenS, [.l 0], none, 0⟩,
  ⟨2, .N .mv, [.c (.int .i64 0)], none, 0⟩] := Eq.trans rfl rfl
theorem er33_2 (φ : Nat → Nat) : r33_2 φ = [
  ⟨0, .N (.bin .lss), [.n 6, .n 5], none, 0⟩] := Eq.trans rfl rfl
theorem er33_3 (φ : Nat → Nat) : r33_3 φ = [
  ⟨0, .N .mv, [.n 6], none, 0⟩,
  ⟨1, .N .mv, [.l 0], none, 0⟩] := Eq.trans rfl rfl
theorem er33_4 (φ : Nat → Nat) : r33_4 φ = [
  ⟨0, .N (.loadN 2), [.n 2], none, 0⟩,
  ⟨1, .N .mv, [.n 0], none, 0⟩,
  ⟨2, .N .mv, [.n 4], none, 0⟩,
  ⟨3, .N (.idx 2), [.l 1, .l 0], none, 6⟩,
  ⟨4, .N (.loadN 2), [.l 0], none, 14⟩,
  ⟨5, .N (.eqS [1, 1] false), [.l 4, .l 0], none, 31⟩] := Eq.trans rfl rfl
theorem er33_5 (φ : Nat → Nat) : r33_5 φ = [
  ⟨0, .N .mv, [.n 4], none, 0⟩,
  ⟨1, .N .mv, [.l 0], none, 0⟩] := Eq.trans rfl rfl
theorem er33_6 (φ : Nat → Nat) : r33_6 φ = [
  ⟨0, .N (.bin .add), [.n 6, .c (.int .i64 1)], none, 0⟩,
  ⟨1, .N .mv, [.l 0], none, 0⟩] := Eq.trans rfl rfl
theorem er33_8 (φ : Nat → Nat) : r33_8 φ = [
  ⟨0, .N .mv, [.c (.int .i64 (-1))], none, 0⟩] := Eq.trans rfl rfl
theorem er34_0 (φ : Nat → Nat) : r34_0 φ = [
  ⟨0, .N .mv, [.c (.nils)], none, 0⟩] := Eq.trans rfl rfl
theorem er34_1 (φ : Nat → Nat) : r34_1 φ = [
  ⟨0, .N .mv, [.n 0], none, 0⟩,
  ⟨1, .N .mv, [.n 1], none, 0⟩,
  ⟨2, .N .mv, [.n 2], none, 0⟩,
  ⟨3, .N .mv, [.n 0], none, 0⟩,
  ⟨4, .N .lenS, [.l 0], none, 0⟩,
  ⟨5, .N (.slc 2 true true true), [.l 4, .l 3, .l 2, .l 0], none, 0⟩] := Eq.trans rfl rfl
theorem er34_2 (φ : Nat → Nat) : r34_2 φ = [
  ⟨0, .N .mv, [.n 1], none, 0⟩,
  ⟨1, .N .mv, [.n 2], none, 0⟩,
  ⟨2, .N (.bin .eql), [.l 1, .l 0], none, 0⟩] := Eq.trans rfl rfl
theorem er34_3 (φ : Nat → Nat) : r34_3 φ = [
  ⟨0, .N .mv, [.n 0], none, 0⟩,
  ⟨1, .N .mv, [.l 0], none, 0⟩] := Eq.trans rfl rfl
theorem er34_4 (φ : Nat → Nat) : r34_4 φ = [
  ⟨0, .N .mv, [.n 0], none, 0⟩,
  ⟨1, .N .lenS, [.l 0], none, 0⟩,
  ⟨2, .N .mv, [.l 0], none, 0⟩] := Eq.trans rfl rfl
theorem er34_5 (φ : Nat → Nat) : r34_5 φ = [
  ⟨0, .N .mv, [.n 0], none, 0⟩,
  ⟨1, .N .mv, [.n 1], none, 0⟩,
  ⟨2, .N (.slc 2 false true false), [.l 1, .l 0], none, 3⟩,
  ⟨3, .N .mv, [.n 0], none, 0⟩,
  ⟨4, .N .mv, [.n 2], none, 0⟩,
  ⟨5, .N (.slc 2 true false false), [.l 1, .l 0], none, 24⟩,
  ⟨6, .X (.app 2 16), [.l 3, .l 0], none, 63⟩,
  ⟨7, .N .mv, [.l 0], none, 127⟩] := Eq.trans rfl rfl
theorem er34_6 (φ : Nat → Nat) : r34_6 φ = [
  ⟨0, .N .mv, [.n 0], none, 0⟩,
  ⟨1, .N .mv, [.n 0], none, 0⟩,
  ⟨2, .N .lenS, [.l 0], none, 0⟩,
  ⟨3, .N .mv, [.n 4], none, 0⟩,
  ⟨4, .N (.slc 2 true true false), [.l 3, .l 1, .l 0], none, 0⟩,
  ⟨5, .X (.clear 2 [.int .i64 0, .int .i64 0]), [.l 0], none, 0⟩] := Eq.trans rfl rfl
theorem er34_7 (φ : Nat → Nat) : r34_7 φ = [
  ⟨0, .N .mv, [.n 0], none, 0⟩,
  ⟨1, .N .mv, [.l 0], none, 0⟩] := Eq.trans rfl rfl
theorem er22_0 (φ : Nat → Nat) : r22_0 φ = [
  ⟨0, .N (.alloc [.int .i64 0, .nils]), [], none, 0⟩] := Eq.trans rfl rfl
theorem er22_1 (φ : Nat → Nat) : r22_1 φ = [
  ⟨0, .N .mv, [.n 0], none, 0⟩,
  ⟨1, .N (.bin .and), [.l 0, .c (.int .i64 65535)], none, 0⟩,
  ⟨2, .N .mv, [.n 2], none, 0⟩,
  ⟨3, .N (.bin .add), [.l 0, .c (.int .i64 1)], none, 0⟩,
  ⟨4, .N (.bin .rem), [.l 2, .l 0], none, 0⟩,
  ⟨5, .N .mv, [.l 0], none, 0⟩] := Eq.trans rfl rfl
theorem er22_2 (φ : Nat → Nat) : r22_2 φ = [
  ⟨0, .N .mv, [.c (.nils)], none, 0⟩] := Eq.trans rfl rfl
theorem er22_3 (φ : Nat → Nat) : r22_3 φ = [
  ⟨0, .N .mv, [.c (.int .i64 0)], none, 0⟩] := Eq.trans rfl rfl
theorem er22_4 (φ : Nat → Nat) : r22_4 φ = [
  ⟨0, .N .mv, [.n 5], none, 0⟩,
  ⟨1, .N .mv, [.n 1], none, 0⟩,
  ⟨2, .N .lenS, [.l 0], none, 0⟩,
  ⟨3, .N (.bin .lss), [.l 2, .l 0], none, 0⟩,
  ⟨4, .N .mv, [.l 0], none, 0⟩,
  ⟨5, .N .mv, [.n 5], some (.l 0, true), 0⟩,
  ⟨6, .N (.bin .lss), [.l 0, .c (.int .i64 300)], some (.l 1, true), 0⟩,
  ⟨7, .N .pick, [.l 2, .l 0, .c (.bool false)], none, 0⟩,
  ⟨8, .N .mv, [.l 0], none, 0⟩,
  ⟨9, .N .mv, [.n 0], some (.l 0, true), 0⟩,
  ⟨10, .N (.bin .gtr), [.l 0, .c (.int .i64 0)], some (.l 1, true), 0⟩,
  ⟨11, .N .pick, [.l 2, .l 0, .c (.bool false)], none, 0⟩] := Eq.trans rfl rfl
theorem er22_5 (φ : Nat → Nat) : r22_5 φ = [
  ⟨0, .N .mv, [.n 4], none, 0⟩,
  ⟨1, .N .mv, [.n 1], none, 0⟩,
  ⟨2, .N .mv, [.n 5], none, 0⟩,
  ⟨3, .N (.idx 2), [.l 1, .l 0], none, 6⟩,
  ⟨4, .N (.fadd 0), [.l 0], none, 14⟩,
  ⟨5, .N .load1, [.l 0], none, 30⟩,
  ⟨6, .N (.bin .and), [.l 0, .c (.int .i64 65535)], none, 62⟩,
  ⟨7, .N .mv, [.n 0], none, 0⟩,
  ⟨8, .N (.bin .rem), [.l 1, .l 0], none, 254⟩,
  ⟨9, .N .mv, [.n 1], none, 0⟩,
  ⟨10, .N .mv, [.n 5], none, 0⟩,
  ⟨11, .N (.idx 2), [.l 1, .l 0], none, 1536⟩,
  ⟨12, .N (.fadd 1), [.l 0], none, 3584⟩,
  ⟨13, .N .load1, [.l 0], none, 7680⟩,
  ⟨14, .N (.bin .and), [.l 0, .c (.int .i64 65535)], none, 15872⟩,
  ⟨15, .N .mv, [.n 0], none, 0⟩,
  ⟨16, .N (.bin .rem), [.l 1, .l 0], none, 65024⟩,
  ⟨17, .N (.build [.int .i64 0, .int .i64 0] [(0, 1), (1, 1)]), [.l 8, .l 0], none, 131070⟩,
  ⟨18, .N (.bsl [.int .i64 0, .int .i64 0] 1 2 [(0, 2)]), [.l 0], none, 262142⟩,
  ⟨19, .X (.app 2 16), [.l 18, .l 0], none, 524287⟩,
  ⟨20, .N .mv, [.l 0], none, 1048575⟩] := Eq.trans rfl rfl
theorem er22_6 (φ : Nat → Nat) : r22_6 φ = [
  ⟨0, .N .mv, [.n 5], none, 0⟩,
  ⟨1, .N (.bin .add), [.l 0, .c (.int .i64 1)], none, 0⟩,
  ⟨2, .N .mv, [.l 0], none, 0⟩] := Eq.trans rfl rfl
theorem er22_8 (φ : Nat → Nat) : r22_8 φ = [
  ⟨0, .N .mv, [.n 0], none, 0⟩,
  ⟨1, .N .mv, [.n 4], none, 0⟩,
  ⟨2, .calli false (φ 2), [.l 1, .l 0], none, 0⟩,
  ⟨3, .N .mv, [.l 0], none, 0⟩,
  ⟨4, .N (.ext 0), [.l 0], none, 0⟩,
  ⟨5, .N (.ext 1), [.l 1], none, 0⟩,
  ⟨6, .N (.alloc [.int .i64 0, .nils]), [], none, 0⟩,
  ⟨7, .X (.store 2), [.l 0, .l 2], none, 0⟩,
  ⟨8, .N .mv, [.l 2], none, 0⟩] := Eq.trans rfl rfl
theorem er22_9 (φ : Nat → Nat) : r22_9 φ = [
  ⟨0, .N (.loadN 2), [.n 6], none, 0⟩,
  ⟨1, .X (.store 2), [.n 3, .l 0], none, 0⟩] := Eq.trans rfl rfl
theorem er39_0 (φ : Nat → Nat) : r39_0 φ = [
  ⟨0, .N .box, [.n 0], none, 0⟩,
  ⟨1, .N (.alloc [.int .i64 0, .nils]), [], none, 0⟩] := Eq.trans rfl rfl
theorem er39_1 (φ : Nat → Nat) : r39_1 φ = [
  ⟨0, .N (.fadd 0), [.n 2], none, 0⟩,
  ⟨1, .N .load1, [.l 0], none, 0⟩,
  ⟨2, .N (.fadd 1), [.n 2], none, 0⟩,
  ⟨3, .N .load1, [.l 0], none, 0⟩,
  ⟨4, .N .mv, [.n 1], none, 0⟩,
  ⟨5, .calli false (φ 22), [.l 3, .l 1, .l 0], none, 0⟩,
  ⟨6, .X (.store 2), [.n 3, .l 0], none, 0⟩] := Eq.trans rfl rfl
/-- A copy that is one's own. -/
theorem w_Clone (h : Has A (φ 32) (f32 φ)) {v : AV} {es : List Ed} (hv : IsE v es) (hn : es.length < 1000000000000) {H : Heap} {K : AV → Heap → Prop}
    (hk : ∀ nl v' H', OwnE nl H.length H' v' es → (∀ b, b < H.length → H'[b]? = H[b]?) → H.length ≤ H'.length → K v' H') : PCall A (φ 32) [v] H K := by
  refine pcall_has h rfl ?_
  simp only [b32, f32]
  obtain ⟨h1, h2, ⟨rfl, h3⟩ | rfl⟩ := hv
  · have : es = [] := List.length_eq_zero_iff.1 h3
    subst this
    simp [↓getD_z, ↓getD_s, -List.getD_eq_getElem?_getD, -Int.ofNat_toNat, -getElem?_pos, gz, ↓hid_k, ↓hid_o, ↓hid_q, ↓hid_v, ↓PO_nil, ↓PO_none, ↓PO_grd, ↓PD_nil, ↓PD_none, ↓PD_grd, ↓PDO_N, ↓PDO_X, ↓PDO_call, ↓PDO_calli, ↓PDO_callv, PDX_free, PDX_eq, ↓PStep_N, ↓PStep_X, ↓PStep_call, ↓PStep_calli, PStep_callv, ↓PC_skip, ↓PC_lab, ↓PC_ret, ↓PC_exit, ↓PC_reg, ↓PC_draw, ↓PC_seq, ↓PC_block, ↓PC_loop, ↓PC_scope, ↓PC_cond, ↓thenC_norm, ↓thenC_ret, ↓thenC_exit, ↓blockC_norm, ↓blockC_ret, ↓blockC_exit, ↓loopC_norm, ↓loopC_ret, ↓loopC_exit, ↓endR_ret, ↓endR_norm, resK_none, resK_t, resK_tt, KNO_val, KNO_new, KNO_ite, KNO_map, KXO_some, KXO_ite, KVA_t, KVA_f, KG_skip, KG_tt, KG_ff, KG_tf, KG_ft, KB_true, KB_false, KNOD_val, KNOD_new, KNOD_ite, n_mv, n_pick, n_bin, n_eqB, n_eqN, n_eqS, n_un, n_conv, n_fadd, n_faddV, n_fld1, n_fldN, n_idx, n_idxA, n_idxV, n_idxAV, n_ext, n_lenS, n_lenS0, n_lenV, n_lenT, n_lenA, n_min, n_max, n_build, n_mkfn, n_slc, n_slc0, n_slcV, n_slcA, n_load1, n_loadN, n_load1V, n_loadNV, n_alloc, n_box, n_bsl, n_mksl, n_nilcP, n_nilcV, n_nilcI, n_nilcF, x_store, x_clear0, x_clear, b_add, b_sub, b_mul, b_eql, b_neq, b_lss, b_leq, b_gtr, b_geq, b_and16, unV, ntouch, gather, hide, unhide, evalOpd, applyOuts, int_bne, int_beq, ite_bool, ite_int, one_bool, cells_bool, one_int, cells_int, one_str, cells_str, one_nilp, cells_nilp, one_ptr, cells_ptr, one_nils, cells_nils, one_sl, cells_sl, one_nilf, cells_nilf, one_fn, cells_fn, one_nili, cells_nili, one_mp, cells_mp, one_nilm, cells_nilm, one_iface, cells_iface, one_vs, cells_vs, one_vp, cells_vp, cells_agg, Nat.testBit, setAt_1, setAt_2, closeds_nil, closeds_cons, closed_bool, closed_int, closed_str, closed_nilp, closed_nils, closed_nilm, closed_nilf, closed_nili, closed_agg, closed_tup, closed_vs, closed_vp, closed_iface, closed_fn, closeds_cI, closeds_cE, viewA_closed, viewR_closed, AV.scal, AV.scal0, fillA, repA, part_bool, part_int, part_str, part_nilp, part_ptr, part_nils, part_sl, part_nilm, part_mp, part_nilf, part_fn, part_nili, part_iface, part_agg, part_vs, part_vp, viewA_sl1, vaSl_cells, wrap_0, wrap_1, wrap_2, wrap_m1, set_last, get_last, er32_0, er32_1, er32_2, er32_3, n_eqN, AV.isNilK]
    exact hk true .nils H (own_nil _ _ _) (fun _ _ => rfl) (Nat.le_refl _)
  · have ho : OwnE false H.length (H ++ [Ob.cells 0 false []]) (.sl H.length 0 0 0 2 0 true) [] := ownE_empty _ _ _ _ _
    obtain ⟨v', H', x1, x2, x3, x4, x5⟩ := Own.app (bytes := 16) ho (src_vs _ es.length 2 (cellsE es)) (by rw [cellsE_length]) (ones_cE es) (by simp) (by simp; omega)
    simp [↓getD_z, ↓getD_s, -List.getD_eq_getElem?_getD, -Int.ofNat_toNat, -getElem?_pos, gz, ↓hid_k, ↓hid_o, ↓hid_q, ↓hid_v, ↓PO_nil, ↓PO_none, ↓PO_grd, ↓PD_nil, ↓PD_none, ↓PD_grd, ↓PDO_N, ↓PDO_X, ↓PDO_call, ↓PDO_calli, ↓PDO_callv, PDX_free, PDX_eq, ↓PStep_N, ↓PStep_X, ↓PStep_call, ↓PStep_calli, PStep_callv, ↓PC_skip, ↓PC_lab, ↓PC_ret, ↓PC_exit, ↓PC_reg, ↓PC_draw, ↓PC_seq, ↓PC_block, ↓PC_loop, ↓PC_scope, ↓PC_cond, ↓thenC_norm, ↓thenC_ret, ↓thenC_exit, ↓blockC_norm, ↓blockC_ret, ↓blockC_exit, ↓loopC_norm, ↓loopC_ret, ↓loopC_exit, ↓endR_ret, ↓endR_norm, resK_none, resK_t, resK_tt, KNO_val, KNO_new, KNO_ite, KNO_map, KXO_some, KXO_ite, KVA_t, KVA_f, KG_skip, KG_tt, KG_ff, KG_tf, KG_ft, KB_true, KB_false, KNOD_val, KNOD_new, KNOD_ite, n_mv, n_pick, n_bin, n_eqB, n_eqN, n_eqS, n_un, n_conv, n_fadd, n_faddV, n_fld1, n_fldN, n_idx, n_idxA, n_idxV, n_idxAV, n_ext, n_lenS, n_lenS0, n_lenV, n_lenT, n_lenA, n_min, n_max, n_build, n_mkfn, n_slc, n_slc0, n_slcV, n_slcA, n_load1, n_loadN, n_load1V, n_loadNV, n_alloc, n_box, n_bsl, n_mksl, n_nilcP, n_nilcV, n_nilcI, n_nilcF, x_store, x_clear0, x_clear, b_add, b_sub, b_mul, b_eql, b_neq, b_lss, b_leq, b_gtr, b_geq, b_and16, unV, ntouch, gather, hide, unhide, evalOpd, applyOuts, int_bne, int_beq, ite_bool, ite_int, one_bool, cells_bool, one_int, cells_int, one_str, cells_str, one_nilp, cells_nilp, one_ptr, cells_ptr, one_nils, cells_nils, one_sl, cells_sl, one_nilf, cells_nilf, one_fn, cells_fn, one_nili, cells_nili, one_mp, cells_mp, one_nilm, cells_nilm, one_iface, cells_iface, one_vs, cells_vs, one_vp, cells_vp, cells_agg, Nat.testBit, setAt_1, setAt_2, closeds_nil, closeds_cons, closed_bool, closed_int, closed_str, closed_nilp, closed_nils, closed_nilm, closed_nilf, closed_nili, closed_agg, closed_tup, closed_vs, closed_vp, closed_iface, closed_fn, closeds_cI, closeds_cE, viewA_closed, viewR_closed, AV.scal, AV.scal0, fillA, repA, part_bool, part_int, part_str, part_nilp, part_ptr, part_nils, part_sl, part_nilm, part_mp, part_nilf, part_fn, part_nili, part_iface, part_agg, part_vs, part_vp, viewA_sl1, vaSl_cells, wrap_0, wrap_1, wrap_2, wrap_m1, set_last, get_last, er32_0, er32_1, er32_2, er32_3, n_eqN, AV.isNilK, x1]
    rw [cellsE_nil, List.nil_append] at x2
    refine hk false v' H' (by simpa using x2) (fun b hb => ?_) (by simp at x4; omega)
    rw [x3 b (by simp; omega) (by simp [blkOf]), List.getElem?_append_left hb]
theorem idxOf_first : ∀ (es : List Ed) (x : Ed) (i : Nat) (h : i < es.length), es[i] = x → (∀ j (h : j < es.length), j < i → ¬ es[j] = x) → es.idxOf x = i
  | y :: l, x, 0, h, e, _ => by simp at e; subst e; simp [List.idxOf_cons]
  | y :: l, x, i + 1, h, e, hn => by
    have h0 : ¬ y = x := hn 0 (by simp) (by omega)
    rw [List.idxOf_cons]
    have hb : (y == x) = false := by simpa using h0
    rw [hb]
    simp only [cond_false]
    rw [idxOf_first l x i (by simpa using h) (by simpa using e) fun j hj hji => hn (j + 1) (by simp; omega) (by omega)]
def idxE (es : List Ed) (x : Ed) : Int := if x ∈ es then (es.idxOf x : Nat) else -1
theorem w_Index (h : Has A (φ 33) (f33 φ)) (v : AV) (es : List Ed) (x : Ed) (hv : IsE v es) (hn : es.length < 1000000000000) : PVal A (φ 33) [v, gE x] (.int .i64 (idxE es x)) := by
  have hlen := hv.len
  refine pval_has h rfl ?_
  simp only [l33_7, b33, f33]
  simp [↓getD_z, ↓getD_s, -List.getD_eq_getElem?_getD, -Int.ofNat_toNat, -getElem?_pos, gz, ↓hid_k, ↓hid_o, ↓hid_q, ↓hid_v, ↓PO_nil, ↓PO_none, ↓PO_grd, ↓PD_nil, ↓PD_none, ↓PD_grd, ↓PDO_N, ↓PDO_X, ↓PDO_call, ↓PDO_calli, ↓PDO_callv, PDX_free, PDX_eq, ↓PStep_N, ↓PStep_X, ↓PStep_call, ↓PStep_calli, PStep_callv, ↓PC_skip, ↓PC_lab, ↓PC_ret, ↓PC_exit, ↓PC_reg, ↓PC_draw, ↓PC_seq, ↓PC_block, ↓PC_loop, ↓PC_scope, ↓PC_cond, ↓thenC_norm, ↓thenC_ret, ↓thenC_exit, ↓blockC_norm, ↓blockC_ret, ↓blockC_exit, ↓loopC_norm, ↓loopC_ret, ↓loopC_exit, ↓endR_ret, ↓endR_norm, resK_none, resK_t, resK_tt, KNO_val, KNO_new, KNO_ite, KNO_map, KXO_some, KXO_ite, KVA_t, KVA_f, KG_skip, KG_tt, KG_ff, KG_tf, KG_ft, KB_true, KB_false, KNOD_val, KNOD_new, KNOD_ite, n_mv, n_pick, n_bin, n_eqB, n_eqN, n_eqS, n_un, n_conv, n_fadd, n_faddV, n_fld1, n_fldN, n_idx, n_idxA, n_idxV, n_idxAV, n_ext, n_lenS, n_lenS0, n_lenV, n_lenT, n_lenA, n_min, n_max, n_build, n_mkfn, n_slc, n_slc0, n_slcV, n_slcA, n_load1, n_loadN, n_load1V, n_loadNV, n_alloc, n_box, n_bsl, n_mksl, n_nilcP, n_nilcV, n_nilcI, n_nilcF, x_store, x_clear0, x_clear, b_add, b_sub, b_mul, b_eql, b_neq, b_lss, b_leq, b_gtr, b_geq, b_and16, unV, ntouch, gather, hide, unhide, evalOpd, applyOuts, int_bne, int_beq, ite_bool, ite_int, one_bool, cells_bool, one_int, cells_int, one_str, cells_str, one_nilp, cells_nilp, one_ptr, cells_ptr, one_nils, cells_nils, one_sl, cells_sl, one_nilf, cells_nilf, one_fn, cells_fn, one_nili, cells_nili, one_mp, cells_mp, one_nilm, cells_nilm, one_iface, cells_iface, one_vs, cells_vs, one_vp, cells_vp, cells_agg, Nat.testBit, setAt_1, setAt_2, closeds_nil, closeds_cons, closed_bool, closed_int, closed_str, closed_nilp, closed_nils, closed_nilm, closed_nilf, closed_nili, closed_agg, closed_tup, closed_vs, closed_vp, closed_iface, closed_fn, closeds_cI, closeds_cE, viewA_closed, viewR_closed, AV.scal, AV.scal0, fillA, repA, part_bool, part_int, part_str, part_nilp, part_ptr, part_nils, part_sl, part_nilm, part_mp, part_nilf, part_fn, part_nili, part_iface, part_agg, part_vs, part_vp, viewA_sl1, vaSl_cells, wrap_0, wrap_1, wrap_2, wrap_m1, set_last, get_last, er33_0, er33_1, er33_2, er33_3, er33_4, er33_5, er33_6, er33_8, hlen]
  refine pc_loopI (fun m st => ∃ (i : Nat) (p q r s : AV), i + m = es.length ∧ (∀ j (h : j < es.length), j < i → ¬ es[j] = x) ∧
      st = ([v, gE x, .ptr 0 0 0, .int .i64 0, p, .int .i64 es.length, .int .i64 i, q, r], [.cells 0 false (aE x)])) es.length ⟨0, _, _, _, .un, by simp, by simp, rfl⟩ ?_
  rintro m st ⟨i, p, q, r, s, hi, hs, rfl⟩
  by_cases hlt : i < es.length
  · obtain ⟨i1, g1', g2', le1, t1⟩ := hv.at hlt
    have hw1 := wrap1 hlt (by omega)
    have hes := eqS2 x es[i]
    by_cases hx : x = es[i]
    · have hix : idxE es x = i := by
        have hm : x ∈ es := by rw [hx]; exact List.getElem_mem hlt
        unfold idxE
        rw [if_pos hm]
        rw [idxOf_first es x i hlt hx.symm hs]
      have ed : decide (x = es[i]) = true := decide_eq_true hx
      simp [↓getD_z, ↓getD_s, -List.getD_eq_getElem?_getD, -Int.ofNat_toNat, -getElem?_pos, gz, ↓hid_k, ↓hid_o, ↓hid_q, ↓hid_v, ↓PO_nil, ↓PO_none, ↓PO_grd, ↓PD_nil, ↓PD_none, ↓PD_grd, ↓PDO_N, ↓PDO_X, ↓PDO_call, ↓PDO_calli, ↓PDO_callv, PDX_free, PDX_eq, ↓PStep_N, ↓PStep_X, ↓PStep_call, ↓PStep_calli, PStep_callv, ↓PC_skip, ↓PC_lab, ↓PC_ret, ↓PC_exit, ↓PC_reg, ↓PC_draw, ↓PC_seq, ↓PC_block, ↓PC_loop, ↓PC_scope, ↓PC_cond, ↓thenC_norm, ↓thenC_ret, ↓thenC_exit, ↓blockC_norm, ↓blockC_ret, ↓blockC_exit, ↓loopC_norm, ↓loopC_ret, ↓loopC_exit, ↓endR_ret, ↓endR_norm, resK_none, resK_t, resK_tt, KNO_val, KNO_new, KNO_ite, KNO_map, KXO_some, KXO_ite, KVA_t, KVA_f, KG_skip, KG_tt, KG_ff, KG_tf, KG_ft, KB_true, KB_false, KNOD_val, KNOD_new, KNOD_ite, n_mv, n_pick, n_bin, n_eqB, n_eqN, n_eqS, n_un, n_conv, n_fadd, n_faddV, n_fld1, n_fldN, n_idx, n_idxA, n_idxV, n_idxAV, n_ext, n_lenS, n_lenS0, n_lenV, n_lenT, n_lenA, n_min, n_max, n_build, n_mkfn, n_slc, n_slc0, n_slcV, n_slcA, n_load1, n_loadN, n_load1V, n_loadNV, n_alloc, n_box, n_bsl, n_mksl, n_nilcP, n_nilcV, n_nilcI, n_nilcF, x_store, x_clear0, x_clear, b_add, b_sub, b_mul, b_eql, b_neq, b_lss, b_leq, b_gtr, b_geq, b_and16, unV, ntouch, gather, hide, unhide, evalOpd, applyOuts, int_bne, int_beq, ite_bool, ite_int, one_bool, cells_bool, one_int, cells_int, one_str, cells_str, one_nilp, cells_nilp, one_ptr, cells_ptr, one_nils, cells_nils, one_sl, cells_sl, one_nilf, cells_nilf, one_fn, cells_fn, one_nili, cells_nili, one_mp, cells_mp, one_nilm, cells_nilm, one_iface, cells_iface, one_vs, cells_vs, one_vp, cells_vp, cells_agg, Nat.testBit, setAt_1, setAt_2, closeds_nil, closeds_cons, closed_bool, closed_int, closed_str, closed_nilp, closed_nils, closed_nilm, closed_nilf, closed_nili, closed_agg, closed_tup, closed_vs, closed_vp, closed_iface, closed_fn, closeds_cI, closeds_cE, viewA_closed, viewR_closed, AV.scal, AV.scal0, fillA, repA, part_bool, part_int, part_str, part_nilp, part_ptr, part_nils, part_sl, part_nilm, part_mp, part_nilf, part_fn, part_nili, part_iface, part_agg, part_vs, part_vp, viewA_sl1, vaSl_cells, wrap_0, wrap_1, wrap_2, wrap_m1, set_last, get_last, er33_0, er33_1, er33_2, er33_3, er33_4, er33_5, er33_6, er33_8, hlt, i1, le1, t1, hes, ed, hix]
    · have ed : decide (x = es[i]) = false := decide_eq_false hx
      simp [↓getD_z, ↓getD_s, -List.getD_eq_getElem?_getD, -Int.ofNat_toNat, -getElem?_pos, gz, ↓hid_k, ↓hid_o, ↓hid_q, ↓hid_v, ↓PO_nil, ↓PO_none, ↓PO_grd, ↓PD_nil, ↓PD_none, ↓PD_grd, ↓PDO_N, ↓PDO_X, ↓PDO_call, ↓PDO_calli, ↓PDO_callv, PDX_free, PDX_eq, ↓PStep_N, ↓PStep_X, ↓PStep_call, ↓PStep_calli, PStep_callv, ↓PC_skip, ↓PC_lab, ↓PC_ret, ↓PC_exit, ↓PC_reg, ↓PC_draw, ↓PC_seq, ↓PC_block, ↓PC_loop, ↓PC_scope, ↓PC_cond, ↓thenC_norm, ↓thenC_ret, ↓thenC_exit, ↓blockC_norm, ↓blockC_ret, ↓blockC_exit, ↓loopC_norm, ↓loopC_ret, ↓loopC_exit, ↓endR_ret, ↓endR_norm, resK_none, resK_t, resK_tt, KNO_val, KNO_new, KNO_ite, KNO_map, KXO_some, KXO_ite, KVA_t, KVA_f, KG_skip, KG_tt, KG_ff, KG_tf, KG_ft, KB_true, KB_false, KNOD_val, KNOD_new, KNOD_ite, n_mv, n_pick, n_bin, n_eqB, n_eqN, n_eqS, n_un, n_conv, n_fadd, n_faddV, n_fld1, n_fldN, n_idx, n_idxA, n_idxV, n_idxAV, n_ext, n_lenS, n_lenS0, n_lenV, n_lenT, n_lenA, n_min, n_max, n_build, n_mkfn, n_slc, n_slc0, n_slcV, n_slcA, n_load1, n_loadN, n_load1V, n_loadNV, n_alloc, n_box, n_bsl, n_mksl, n_nilcP, n_nilcV, n_nilcI, n_nilcF, x_store, x_clear0, x_clear, b_add, b_sub, b_mul, b_eql, b_neq, b_lss, b_leq, b_gtr, b_geq, b_and16, unV, ntouch, gather, hide, unhide, evalOpd, applyOuts, int_bne, int_beq, ite_bool, ite_int, one_bool, cells_bool, one_int, cells_int, one_str, cells_str, one_nilp, cells_nilp, one_ptr, cells_ptr, one_nils, cells_nils, one_sl, cells_sl, one_nilf, cells_nilf, one_fn, cells_fn, one_nili, cells_nili, one_mp, cells_mp, one_nilm, cells_nilm, one_iface, cells_iface, one_vs, cells_vs, one_vp, cells_vp, cells_agg, Nat.testBit, setAt_1, setAt_2, closeds_nil, closeds_cons, closed_bool, closed_int, closed_str, closed_nilp, closed_nils, closed_nilm, closed_nilf, closed_nili, closed_agg, closed_tup, closed_vs, closed_vp, closed_iface, closed_fn, closeds_cI, closeds_cE, viewA_closed, viewR_closed, AV.scal, AV.scal0, fillA, repA, part_bool, part_int, part_str, part_nilp, part_ptr, part_nils, part_sl, part_nilm, part_mp, part_nilf, part_fn, part_nili, part_iface, part_agg, part_vs, part_vp, viewA_sl1, vaSl_cells, wrap_0, wrap_1, wrap_2, wrap_m1, set_last, get_last, er33_0, er33_1, er33_2, er33_3, er33_4, er33_5, er33_6, er33_8, hlt, i1, le1, t1, hes, ed, hw1]
      refine next_mk (m - 1) (by omega) ⟨i + 1, _, _, _, .un, by omega, fun j h hj => ?_, rfl⟩
      by_cases e : j = i
      · subst e; exact fun h => hx h.symm
      · exact hs j h (by omega)
  · have hno : ¬ x ∈ es := by
      intro hm
      obtain ⟨j, hj, rfl⟩ := List.getElem_of_mem hm
      exact hs j hj (by omega) rfl
    have hix : idxE es x = -1 := by unfold idxE; rw [if_neg hno]
    simp [↓getD_z, ↓getD_s, -List.getD_eq_getElem?_getD, -Int.ofNat_toNat, -getElem?_pos, gz, ↓hid_k, ↓hid_o, ↓hid_q, ↓hid_v, ↓PO_nil, ↓PO_none, ↓PO_grd, ↓PD_nil, ↓PD_none, ↓PD_grd, ↓PDO_N, ↓PDO_X, ↓PDO_call, ↓PDO_calli, ↓PDO_callv, PDX_free, PDX_eq, ↓PStep_N, ↓PStep_X, ↓PStep_call, ↓PStep_calli, PStep_callv, ↓PC_skip, ↓PC_lab, ↓PC_ret, ↓PC_exit, ↓PC_reg, ↓PC_draw, ↓PC_seq, ↓PC_block, ↓PC_loop, ↓PC_scope, ↓PC_cond, ↓thenC_norm, ↓thenC_ret, ↓thenC_exit, ↓blockC_norm, ↓blockC_ret, ↓blockC_exit, ↓loopC_norm, ↓loopC_ret, ↓loopC_exit, ↓endR_ret, ↓endR_norm, resK_none, resK_t, resK_tt, KNO_val, KNO_new, KNO_ite, KNO_map, KXO_some, KXO_ite, KVA_t, KVA_f, KG_skip, KG_tt, KG_ff, KG_tf, KG_ft, KB_true, KB_false, KNOD_val, KNOD_new, KNOD_ite, n_mv, n_pick, n_bin, n_eqB, n_eqN, n_eqS, n_un, n_conv, n_fadd, n_faddV, n_fld1, n_fldN, n_idx, n_idxA, n_idxV, n_idxAV, n_ext, n_lenS, n_lenS0, n_lenV, n_lenT, n_lenA, n_min, n_max, n_build, n_mkfn, n_slc, n_slc0, n_slcV, n_slcA, n_load1, n_loadN, n_load1V, n_loadNV, n_alloc, n_box, n_bsl, n_mksl, n_nilcP, n_nilcV, n_nilcI, n_nilcF, x_store, x_clear0, x_clear, b_add, b_sub, b_mul, b_eql, b_neq, b_lss, b_leq, b_gtr, b_geq, b_and16, unV, ntouch, gather, hide, unhide, evalOpd, applyOuts, int_bne, int_beq, ite_bool, ite_int, one_bool, cells_bool, one_int, cells_int, one_str, cells_str, one_nilp, cells_nilp, one_ptr, cells_ptr, one_nils, cells_nils, one_sl, cells_sl, one_nilf, cells_nilf, one_fn, cells_fn, one_nili, cells_nili, one_mp, cells_mp, one_nilm, cells_nilm, one_iface, cells_iface, one_vs, cells_vs, one_vp, cells_vp, cells_agg, Nat.testBit, setAt_1, setAt_2, closeds_nil, closeds_cons, closed_bool, closed_int, closed_str, closed_nilp, closed_nils, closed_nilm, closed_nilf, closed_nili, closed_agg, closed_tup, closed_vs, closed_vp, closed_iface, closed_fn, closeds_cI, closeds_cE, viewA_closed, viewR_closed, AV.scal, AV.scal0, fillA, repA, part_bool, part_int, part_str, part_nilp, part_ptr, part_nils, part_sl, part_nilm, part_mp, part_nilf, part_fn, part_nili, part_iface, part_agg, part_vs, part_vp, viewA_sl1, vaSl_cells, wrap_0, wrap_1, wrap_2, wrap_m1, set_last, get_last, er33_0, er33_1, er33_2, er33_3, er33_4, er33_5, er33_6, er33_8, hlt, hix]
theorem erase_cells (es : List Ed) (i : Nat) (hi : i < es.length) : setAt (cellsE es) (i * 2) ((cellsE es).drop ((i + 1) * 2)) = cellsE (es.eraseIdx i) ++ (cellsE es).drop ((es.length - 1) * 2) := by
  have e : es.eraseIdx i = es.take i ++ es.drop (i + 1) := List.eraseIdx_eq_take_drop_succ ..
  unfold setAt
  rw [cE_drop, cE_take, e, cellsE_append, cE_drop]
  congr 2
  rw [cellsE_length, List.length_drop]
  rw [← cE_drop]
  congr 1
  omega
/-- An edge is taken out of a row that is one's own. -/
theorem w_Delete (h : Has A (φ 34) (f34 φ)) {nl : Bool} {P : Nat} {v : AV} {es : List Ed} {i : Nat} {H : Heap} (hv : OwnE nl P H v es) (hi : i < es.length) (hn : es.length < 1000000000000) {K : AV → Heap → Prop}
    (hk : ∀ v' H', RdV false H' v' (es.eraseIdx i) → (∀ b, b < P → H'[b]? = H[b]?) → H'.length = H.length → (∀ b, blkOf v ≠ some b → H'[b]? = H[b]?) → (∀ b, blkOf v' = some b → P ≤ b) → K v' H') : PCall A (φ 34) [v, .int .i64 i, .int .i64 ((i : Int) + 1)] H K := by
  refine pcall_has h rfl ?_
  simp only [b34, f34]
  rcases hv with ⟨h0, _⟩ | ⟨h0, b, g, ex, rfl, h1, h2, hb⟩
  · omega
  have b1 : (i : Int) ≤ (i : Int) + 1 := by omega
  have b2 : (i : Int) + 1 ≤ es.length := by omega
  have b3 : (i : Int) ≤ es.length := by omega
  have b4 : (0 : Int) ≤ (i : Int) + 1 := by omega
  have b5 : ((i : Int) + 1).toNat = i + 1 := by omega
  have hbl := lt_of_get hb
  have hset : ∀ z, (H.set b z)[b]? = some z := fun z => List.getElem?_set_self hbl
  have hec := erase_cells es i hi
  have htk : ((cellsE es).drop ((i + 1) * 2)).take ((es.length - (i + 1)) * 2) = (cellsE es).drop ((i + 1) * 2) := List.take_of_length_le (by rw [List.length_drop, cellsE_length]; omega)
  have hone : ((cellsE es).drop ((i + 1) * 2)).all (·.one) = true := by
    rw [List.all_eq_true]; exact fun x hx => List.all_eq_true.1 (ones_cE es) x (List.mem_of_mem_drop hx)
  have happ : ∃ ex', xstep (.app 2 16) [.sl b g 0 i 2 es.length ex, .sl b g ((i + 1) * 2) (es.length - (i + 1)) 2 (es.length - (i + 1)) ex] H = some (.sl b g 0 (es.length - 1) 2 es.length ex', H.set b (.cells g false (cellsE (es.eraseIdx i) ++ (cellsE es).drop ((es.length - 1) * 2)))) := by
    refine ⟨ex, ?_⟩
    have e1 : i + (es.length - (i + 1)) ≤ es.length := by omega
    have e2 : i + (es.length - (i + 1)) = es.length - 1 := by omega
    have e3 : (i + 1) * 2 + (es.length - (i + 1)) * 2 ≤ (cellsE es).length := by rw [cellsE_length]; omega
    by_cases hz : es.length - (i + 1) = 0
    · have hset0 : H.set b (.cells g false (cellsE es)) = H := by
        obtain ⟨h1, h2⟩ := List.getElem?_eq_some_iff.1 hb
        rw [← h2]; exact List.set_getElem_self h1
      have e4 : cellsE (es.eraseIdx i) ++ (cellsE es).drop ((es.length - 1) * 2) = cellsE es := by
        rw [← hec]
        have : (cellsE es).drop ((i + 1) * 2) = [] := List.drop_eq_nil_of_le (by rw [cellsE_length]; omega)
        rw [this]; simp [setAt]
      rw [e4, hset0]
      have e5 : i = es.length - 1 := by omega
      simp [xstep, srcCells, hz, appStep]
      exact e5
    · have e6 : i * 2 + ((cellsE es).drop ((i + 1) * 2)).length ≤ (cellsE es).length := by rw [List.length_drop, cellsE_length]; omega
      simp only [xstep, srcCells, if_true, if_neg hz, rdSl, hb]
      simp only [true_and, if_pos e3, htk, Option.map_some, appStep, hone, Bool.not_true, Bool.false_eq_true, if_false, ne_eq, not_true_eq_false, if_neg hz, if_pos e1, hb, Nat.zero_add, if_pos e6, hec, e2, if_pos (show es.length - 1 ≤ es.length by omega)]
  obtain ⟨ex', happ⟩ := happ
  have hcl : (cellsE (es.eraseIdx i) ++ (cellsE es).drop ((es.length - 1) * 2)).length = es.length * 2 := by
    rw [List.length_append, cellsE_length, List.length_drop, cellsE_length, List.length_eraseIdx]
    split <;> omega
  have b6 : (0 : Int) ≤ ((es.length - 1 : Nat) : Int) := by omega
  have b7 : ((es.length - 1 : Nat) : Int) ≤ es.length := by omega
  have hel : (es.eraseIdx i).length = es.length - 1 := by rw [List.length_eraseIdx, if_pos hi]
  have e7 : ¬ es.length - (es.length - 1) = 0 := by omega
  have b8 : i + 1 ≤ es.length := by omega
  have b9 : i ≤ es.length := by omega
  have b10 : ¬ i = i + 1 := by omega
  have e8 : (es.length - 1) * 2 + (es.length - (es.length - 1)) * 2 ≤ es.length * 2 := by omega
  have b11 : ¬ (i : Int) = (i : Int) + 1 := by omega
  simp [↓getD_z, ↓getD_s, -List.getD_eq_getElem?_getD, -Int.ofNat_toNat, -getElem?_pos, gz, ↓hid_k, ↓hid_o, ↓hid_q, ↓hid_v, ↓PO_nil, ↓PO_none, ↓PO_grd, ↓PD_nil, ↓PD_none, ↓PD_grd, ↓PDO_N, ↓PDO_X, ↓PDO_call, ↓PDO_calli, ↓PDO_callv, PDX_free, PDX_eq, ↓PStep_N, ↓PStep_X, ↓PStep_call, ↓PStep_calli, PStep_callv, ↓PC_skip, ↓PC_lab, ↓PC_ret, ↓PC_exit, ↓PC_reg, ↓PC_draw, ↓PC_seq, ↓PC_block, ↓PC_loop, ↓PC_scope, ↓PC_cond, ↓thenC_norm, ↓thenC_ret, ↓thenC_exit, ↓blockC_norm, ↓blockC_ret, ↓blockC_exit, ↓loopC_norm, ↓loopC_ret, ↓loopC_exit, ↓endR_ret, ↓endR_norm, resK_none, resK_t, resK_tt, KNO_val, KNO_new, KNO_ite, KNO_map, KXO_some, KXO_ite, KVA_t, KVA_f, KG_skip, KG_tt, KG_ff, KG_tf, KG_ft, KB_true, KB_false, KNOD_val, KNOD_new, KNOD_ite, n_mv, n_pick, n_bin, n_eqB, n_eqN, n_eqS, n_un, n_conv, n_fadd, n_faddV, n_fld1, n_fldN, n_idx, n_idxA, n_idxV, n_idxAV, n_ext, n_lenS, n_lenS0, n_lenV, n_lenT, n_lenA, n_min, n_max, n_build, n_mkfn, n_slc, n_slc0, n_slcV, n_slcA, n_load1, n_loadN, n_load1V, n_loadNV, n_alloc, n_box, n_bsl, n_mksl, n_nilcP, n_nilcV, n_nilcI, n_nilcF, x_store, x_clear0, x_clear, b_add, b_sub, b_mul, b_eql, b_neq, b_lss, b_leq, b_gtr, b_geq, b_and16, unV, ntouch, gather, hide, unhide, evalOpd, applyOuts, int_bne, int_beq, ite_bool, ite_int, one_bool, cells_bool, one_int, cells_int, one_str, cells_str, one_nilp, cells_nilp, one_ptr, cells_ptr, one_nils, cells_nils, one_sl, cells_sl, one_nilf, cells_nilf, one_fn, cells_fn, one_nili, cells_nili, one_mp, cells_mp, one_nilm, cells_nilm, one_iface, cells_iface, one_vs, cells_vs, one_vp, cells_vp, cells_agg, Nat.testBit, setAt_1, setAt_2, closeds_nil, closeds_cons, closed_bool, closed_int, closed_str, closed_nilp, closed_nils, closed_nilm, closed_nilf, closed_nili, closed_agg, closed_tup, closed_vs, closed_vp, closed_iface, closed_fn, closeds_cI, closeds_cE, viewA_closed, viewR_closed, AV.scal, AV.scal0, fillA, repA, part_bool, part_int, part_str, part_nilp, part_ptr, part_nils, part_sl, part_nilm, part_mp, part_nilf, part_fn, part_nili, part_iface, part_agg, part_vs, part_vp, viewA_sl1, vaSl_cells, wrap_0, wrap_1, wrap_2, wrap_m1, set_last, get_last, er34_0, er34_1, er34_2, er34_3, er34_4, er34_5, er34_6, er34_7, b11, bounds3, intArg, b1, b2, b3, b4, b5, b8, b9, happ, hset, hcl, e7, e8]
  have hrl : (repA [AV.int IntKind.i64 0, AV.int IntKind.i64 0] (es.length - (es.length - 1))).length = (es.length - (es.length - 1)) * 2 := by rw [repA_len]; rfl
  refine hk _ _ (.inr ⟨(fun h => by cases h), b, g, 0, es.length, ex', false, _, by rw [hel], hset _, fun j hj => ?_⟩) (fun b' hb' => List.getElem?_set_ne (by omega)) (by simp) (fun b' hb' => List.getElem?_set_ne (fun e => hb' (by simp only [blkOf]; rw [if_neg (by omega), e]))) (fun b' hb' => by
    simp only [blkOf] at hb'
    split at hb' <;> cases hb'
    exact h1)
  rw [hel] at hj
  have hj' : j < (es.eraseIdx i).length := by rw [hel]; exact hj
  obtain ⟨k1, k2⟩ := cE_get (es.eraseIdx i) j hj'
  have hl' : (cellsE (es.eraseIdx i)).length = (es.length - 1) * 2 := by rw [cellsE_length, hel]
  rw [setAt_get (by rw [hrl, hcl]; omega), setAt_get (by rw [hrl, hcl]; omega), if_neg (by omega), if_neg (by omega), List.getElem?_append_left (by omega), List.getElem?_append_left (by omega)]
  simp only [Nat.zero_add]
  exact ⟨k1, k2⟩
/-! ### Any graph -/
def turnE (N : Int) (x : Ed) : Ed := ((x.1 % 65536).tmod N, (x.2 % 65536).tmod N)
def anyN (n most : Int) : Int := (n % 65536).tmod (most + 1)
def anyL (n : Int) (l : List Ed) : List Ed := if n > 0 then (l.take 300).map (turnE n) else []
theorem anyN_range {n most : Int} (h : 0 ≤ most) : 0 ≤ anyN n most ∧ anyN n most ≤ most := by
  unfold anyN
  have h1 : (0 : Int) ≤ n % 65536 := Int.emod_nonneg _ (by decide)
  rw [Int.tmod_eq_emod_of_nonneg h1]
  have := Int.emod_nonneg (n % 65536) (show most + 1 ≠ 0 by omega)
  have := Int.emod_lt_of_pos (n % 65536) (show 0 < most + 1 by omega)
  omega
theorem turnE_range {N : Int} (h : 0 < N) (x : Ed) : 0 ≤ (turnE N x).1 ∧ (turnE N x).1 < N ∧ 0 ≤ (turnE N x).2 ∧ (turnE N x).2 < N := by
  have e1 : (0 : Int) ≤ x.1 % 65536 := Int.emod_nonneg _ (by decide)
  have e2 : (0 : Int) ≤ x.2 % 65536 := Int.emod_nonneg _ (by decide)
  simp only [turnE, Int.tmod_eq_emod_of_nonneg e1, Int.tmod_eq_emod_of_nonneg e2]
  exact ⟨Int.emod_nonneg _ (by omega), Int.emod_lt_of_pos _ (by omega), Int.emod_nonneg _ (by omega), Int.emod_lt_of_pos _ (by omega)⟩
theorem anyL_ok (n : Int) (l : List Ed) : (anyL n l).all (okEnds n) = true := by
  unfold anyL
  split
  · rw [List.all_eq_true]
    intro x hx
    rw [List.mem_map] at hx
    obtain ⟨y, _, rfl⟩ := hx
    have := turnE_range (N := n) (by omega) y
    rw [okEnds, decide_eq_true (by omega), decide_eq_true (by omega)]; rfl
  · rfl
theorem anyL_len (n : Int) (l : List Ed) : (anyL n l).length ≤ 300 := by
  unfold anyL
  split
  · simp; omega
  · simp
/-- The graph that is made of anything. -/
def anyE (n most : Int) (l : List Ed) : List Ed := setE (anyL (anyN n most) l)
theorem any_normal {n most : Int} (l : List Ed) (h0 : 0 ≤ most) (h1 : most ≤ 1000) : normalE (anyN n most) (anyL (anyN n most) l) = (anyN n most, anyE n most l, 0) := by
  have hr := anyN_range (n := n) h0
  refine normalE_ok (by omega) (by omega) (anyL_ok _ _) ?_
  have := setE_le (anyL (anyN n most) l)
  have := anyL_len (anyN n most) l
  omega
theorem w_Any (h : Has A (φ 22) (f22 φ)) (hN : ∀ n v l, IsE v l → l.length < 1000000000 → PVal A (φ 2) [.int .i64 n, v] (nR n l)) (n most : Int) (v : AV) (l : List Ed) (hv : IsE v l) (h0 : 0 ≤ most) (h1 : most ≤ 1000) :
    PVal A (φ 22) [.int .i64 n, v, .int .i64 most] (gV (anyN n most) (rE (anyE n most l))) := by
  have hlen := hv.len
  have hr := anyN_range (n := n) h0
  have hw0 : IntKind.i64.wrap (most + 1) = most + 1 := wrap_in (by omega) (by omega)
  have hb : binV .rem (.int .i64 (n % 65536)) (.int .i64 (most + 1)) = some (.int .i64 (anyN n most)) := b_rem _ _ _ (by omega)
  have hfin := any_normal (n := n) l h0 h1
  refine pval_has h rfl ?_
  simp only [l22_7, b22, f22]
  simp [↓getD_z, ↓getD_s, -List.getD_eq_getElem?_getD, -Int.ofNat_toNat, -getElem?_pos, gz, ↓hid_k, ↓hid_o, ↓hid_q, ↓hid_v, ↓PO_nil, ↓PO_none, ↓PO_grd, ↓PD_nil, ↓PD_none, ↓PD_grd, ↓PDO_N, ↓PDO_X, ↓PDO_call, ↓PDO_calli, ↓PDO_callv, PDX_free, PDX_eq, ↓PStep_N, ↓PStep_X, ↓PStep_call, ↓PStep_calli, PStep_callv, ↓PC_skip, ↓PC_lab, ↓PC_ret, ↓PC_exit, ↓PC_reg, ↓PC_draw, ↓PC_seq, ↓PC_block, ↓PC_loop, ↓PC_scope, ↓PC_cond, ↓thenC_norm, ↓thenC_ret, ↓thenC_exit, ↓blockC_norm, ↓blockC_ret, ↓blockC_exit, ↓loopC_norm, ↓loopC_ret, ↓loopC_exit, ↓endR_ret, ↓endR_norm, resK_none, resK_t, resK_tt, KNO_val, KNO_new, KNO_ite, KNO_map, KXO_some, KXO_ite, KVA_t, KVA_f, KG_skip, KG_tt, KG_ff, KG_tf, KG_ft, KB_true, KB_false, KNOD_val, KNOD_new, KNOD_ite, n_mv, n_pick, n_bin, n_eqB, n_eqN, n_eqS, n_un, n_conv, n_fadd, n_faddV, n_fld1, n_fldN, n_idx, n_idxA, n_idxV, n_idxAV, n_ext, n_lenS, n_lenS0, n_lenV, n_lenT, n_lenA, n_min, n_max, n_build, n_mkfn, n_slc, n_slc0, n_slcV, n_slcA, n_load1, n_loadN, n_load1V, n_loadNV, n_alloc, n_box, n_bsl, n_mksl, n_nilcP, n_nilcV, n_nilcI, n_nilcF, x_store, x_clear0, x_clear, b_add, b_sub, b_mul, b_eql, b_neq, b_lss, b_leq, b_gtr, b_geq, b_and16, unV, ntouch, gather, hide, unhide, evalOpd, applyOuts, int_bne, int_beq, ite_bool, ite_int, one_bool, cells_bool, one_int, cells_int, one_str, cells_str, one_nilp, cells_nilp, one_ptr, cells_ptr, one_nils, cells_nils, one_sl, cells_sl, one_nilf, cells_nilf, one_fn, cells_fn, one_nili, cells_nili, one_mp, cells_mp, one_nilm, cells_nilm, one_iface, cells_iface, one_vs, cells_vs, one_vp, cells_vp, cells_agg, Nat.testBit, setAt_1, setAt_2, closeds_nil, closeds_cons, closed_bool, closed_int, closed_str, closed_nilp, closed_nils, closed_nilm, closed_nilf, closed_nili, closed_agg, closed_tup, closed_vs, closed_vp, closed_iface, closed_fn, closeds_cI, closeds_cE, viewA_closed, viewR_closed, AV.scal, AV.scal0, fillA, repA, part_bool, part_int, part_str, part_nilp, part_ptr, part_nils, part_sl, part_nilm, part_mp, part_nilf, part_fn, part_nili, part_iface, part_agg, part_vs, part_vp, viewA_sl1, vaSl_cells, wrap_0, wrap_1, wrap_2, wrap_m1, set_last, get_last, er22_0, er22_1, er22_2, er22_3, er22_4, er22_5, er22_6, er22_8, er22_9, hw0, hb]
  generalize hNe : anyN n most = N at *
  refine pc_loopI (fun m st => ∃ (i : Nat) (o p : AV) (H : Heap), i + m = (anyL N l).length ∧ OwnE true 1 H o ((anyL N l).take i) ∧ H[0]? = some (.cells 0 false [.int .i64 0, .nils]) ∧
      st = ([.int .i64 N, v, .int .i64 most, .ptr 0 0 0, o, .int .i64 i, .un, p], H)) (anyL N l).length ⟨0, _, _, _, by simp, own_nil _ _ _, rfl, rfl⟩ ?_
  rintro m st ⟨i, o, p, H, hi, ho, e0, rfl⟩
  by_cases hlt : i < (anyL N l).length
  · have hN0 : 0 < N := by
      rcases Int.lt_or_le 0 N with h | h
      · exact h
      · unfold anyL at hlt; rw [if_neg (by omega)] at hlt; simp at hlt
    have hlt2 : i < l.length ∧ i < 300 := by unfold anyL at hlt; rw [if_pos hN0] at hlt; simp at hlt; omega
    obtain ⟨hl1, hl2⟩ := hlt2
    have hl1' : (i : Int) < l.length := by omega
    have hl2' : (i : Int) < 300 := by omega
    have hg : (anyL N l)[i] = turnE N l[i] := by
      have : anyL N l = (l.take 300).map (turnE N) := by unfold anyL; rw [if_pos hN0]
      simp only [this, List.getElem_map, List.getElem_take]
    obtain ⟨i1, g1', g2', le1, t1⟩ := hv.at hl1
    have hw1 := wrap1 hl2 (by omega)
    have r1 : binV .rem (.int .i64 (l[i].1 % 65536)) (.int .i64 N) = some (.int .i64 (turnE N l[i]).1) := b_rem _ _ _ (by omega)
    have r2 : binV .rem (.int .i64 (l[i].2 % 65536)) (.int .i64 N) = some (.int .i64 (turnE N l[i]).2) := b_rem _ _ _ (by omega)
    obtain ⟨o1, H1, x1, x2, x3, _, _, _⟩ := OwnE.app1 ho (turnE N l[i]).1 (turnE N l[i]).2 (lt_of_get e0) (by simp; omega)
    simp [↓getD_z, ↓getD_s, -List.getD_eq_getElem?_getD, -Int.ofNat_toNat, -getElem?_pos, gz, ↓hid_k, ↓hid_o, ↓hid_q, ↓hid_v, ↓PO_nil, ↓PO_none, ↓PO_grd, ↓PD_nil, ↓PD_none, ↓PD_grd, ↓PDO_N, ↓PDO_X, ↓PDO_call, ↓PDO_calli, ↓PDO_callv, PDX_free, PDX_eq, ↓PStep_N, ↓PStep_X, ↓PStep_call, ↓PStep_calli, PStep_callv, ↓PC_skip, ↓PC_lab, ↓PC_ret, ↓PC_exit, ↓PC_reg, ↓PC_draw, ↓PC_seq, ↓PC_block, ↓PC_loop, ↓PC_scope, ↓PC_cond, ↓thenC_norm, ↓thenC_ret, ↓thenC_exit, ↓blockC_norm, ↓blockC_ret, ↓blockC_exit, ↓loopC_norm, ↓loopC_ret, ↓loopC_exit, ↓endR_ret, ↓endR_norm, resK_none, resK_t, resK_tt, KNO_val, KNO_new, KNO_ite, KNO_map, KXO_some, KXO_ite, KVA_t, KVA_f, KG_skip, KG_tt, KG_ff, KG_tf, KG_ft, KB_true, KB_false, KNOD_val, KNOD_new, KNOD_ite, n_mv, n_pick, n_bin, n_eqB, n_eqN, n_eqS, n_un, n_conv, n_fadd, n_faddV, n_fld1, n_fldN, n_idx, n_idxA, n_idxV, n_idxAV, n_ext, n_lenS, n_lenS0, n_lenV, n_lenT, n_lenA, n_min, n_max, n_build, n_mkfn, n_slc, n_slc0, n_slcV, n_slcA, n_load1, n_loadN, n_load1V, n_loadNV, n_alloc, n_box, n_bsl, n_mksl, n_nilcP, n_nilcV, n_nilcI, n_nilcF, x_store, x_clear0, x_clear, b_add, b_sub, b_mul, b_eql, b_neq, b_lss, b_leq, b_gtr, b_geq, b_and16, unV, ntouch, gather, hide, unhide, evalOpd, applyOuts, int_bne, int_beq, ite_bool, ite_int, one_bool, cells_bool, one_int, cells_int, one_str, cells_str, one_nilp, cells_nilp, one_ptr, cells_ptr, one_nils, cells_nils, one_sl, cells_sl, one_nilf, cells_nilf, one_fn, cells_fn, one_nili, cells_nili, one_mp, cells_mp, one_nilm, cells_nilm, one_iface, cells_iface, one_vs, cells_vs, one_vp, cells_vp, cells_agg, Nat.testBit, setAt_1, setAt_2, closeds_nil, closeds_cons, closed_bool, closed_int, closed_str, closed_nilp, closed_nils, closed_nilm, closed_nilf, closed_nili, closed_agg, closed_tup, closed_vs, closed_vp, closed_iface, closed_fn, closeds_cI, closeds_cE, viewA_closed, viewR_closed, AV.scal, AV.scal0, fillA, repA, part_bool, part_int, part_str, part_nilp, part_ptr, part_nils, part_sl, part_nilm, part_mp, part_nilf, part_fn, part_nili, part_iface, part_agg, part_vs, part_vp, viewA_sl1, vaSl_cells, wrap_0, wrap_1, wrap_2, wrap_m1, set_last, get_last, er22_0, er22_1, er22_2, er22_3, er22_4, er22_5, er22_6, er22_8, er22_9, hlen, hl1', hl2', hl1, hl2, hN0, i1, g1', g2', r1, r2, x1, hw1]
    refine next_mk (m - 1) (by omega) ⟨i + 1, o1, _, H1, by omega, ?_, by rw [x3 0 (by omega)]; exact e0, rfl⟩
    rw [List.take_succ_eq_append_getElem hlt, hg]; exact x2
  · have hm : (anyL N l).take i = anyL N l := List.take_of_length_le (by omega)
    rw [hm] at ho
    have hgu : ¬ ((i < l.length ∧ i < 300) ∧ 0 < N) := by
      rintro ⟨⟨h1, h2⟩, h3⟩
      apply hlt
      unfold anyL; rw [if_pos h3]; simp; omega
    obtain ⟨H', hva, hvl, hvk⟩ := Own.viewA (pre := [.int .i64 N]) (post := []) ho (closeds_cE _) rfl rfl
    have hal := anyL_len N l
    have hNE := (hN N (rE (anyL N l)) (anyL N l) (isE_r _) (by omega)).eq
    have e0' : H'[0]? = some (.cells 0 false [.int .i64 0, .nils]) := by rw [hvk 0 (fun h => by have := (Own.blk ho h).1; omega)]; exact e0
    simp only [List.cons_append, List.nil_append] at hva
    have hcl : (rE (anyE n most l)).closed = true := (isE_r _).closed
    have hone : (rE (anyE n most l)).one = true := (isE_r _).one
    have hcell : (rE (anyE n most l)).cells = [rE (anyE n most l)] := (isE_r _).cells
    have hlr := lt_of_get e0'
    have hset : ∀ z w, ((H' ++ [w]).set 0 z)[0]? = some z := fun z w => List.getElem?_set_self (by simp)
    have e0m := fun w => get_more [w] e0'
    by_cases k1 : i < l.length
    · by_cases k2 : (i : Int) < 300
      · have k3 : ¬ 0 < N := fun h => hgu ⟨⟨k1, by omega⟩, h⟩
        simp [↓getD_z, ↓getD_s, -List.getD_eq_getElem?_getD, -Int.ofNat_toNat, -getElem?_pos, gz, ↓hid_k, ↓hid_o, ↓hid_q, ↓hid_v, ↓PO_nil, ↓PO_none, ↓PO_grd, ↓PD_nil, ↓PD_none, ↓PD_grd, ↓PDO_N, ↓PDO_X, ↓PDO_call, ↓PDO_calli, ↓PDO_callv, PDX_free, PDX_eq, ↓PStep_N, ↓PStep_X, ↓PStep_call, ↓PStep_calli, PStep_callv, ↓PC_skip, ↓PC_lab, ↓PC_ret, ↓PC_exit, ↓PC_reg, ↓PC_draw, ↓PC_seq, ↓PC_block, ↓PC_loop, ↓PC_scope, ↓PC_cond, ↓thenC_norm, ↓thenC_ret, ↓thenC_exit, ↓blockC_norm, ↓blockC_ret, ↓blockC_exit, ↓loopC_norm, ↓loopC_ret, ↓loopC_exit, ↓endR_ret, ↓endR_norm, resK_none, resK_t, resK_tt, KNO_val, KNO_new, KNO_ite, KNO_map, KXO_some, KXO_ite, KVA_t, KVA_f, KG_skip, KG_tt, KG_ff, KG_tf, KG_ft, KB_true, KB_false, KNOD_val, KNOD_new, KNOD_ite, n_mv, n_pick, n_bin, n_eqB, n_eqN, n_eqS, n_un, n_conv, n_fadd, n_faddV, n_fld1, n_fldN, n_idx, n_idxA, n_idxV, n_idxAV, n_ext, n_lenS, n_lenS0, n_lenV, n_lenT, n_lenA, n_min, n_max, n_build, n_mkfn, n_slc, n_slc0, n_slcV, n_slcA, n_load1, n_loadN, n_load1V, n_loadNV, n_alloc, n_box, n_bsl, n_mksl, n_nilcP, n_nilcV, n_nilcI, n_nilcF, x_store, x_clear0, x_clear, b_add, b_sub, b_mul, b_eql, b_neq, b_lss, b_leq, b_gtr, b_geq, b_and16, unV, ntouch, gather, hide, unhide, evalOpd, applyOuts, int_bne, int_beq, ite_bool, ite_int, one_bool, cells_bool, one_int, cells_int, one_str, cells_str, one_nilp, cells_nilp, one_ptr, cells_ptr, one_nils, cells_nils, one_sl, cells_sl, one_nilf, cells_nilf, one_fn, cells_fn, one_nili, cells_nili, one_mp, cells_mp, one_nilm, cells_nilm, one_iface, cells_iface, one_vs, cells_vs, one_vp, cells_vp, cells_agg, Nat.testBit, setAt_1, setAt_2, closeds_nil, closeds_cons, closed_bool, closed_int, closed_str, closed_nilp, closed_nils, closed_nilm, closed_nilf, closed_nili, closed_agg, closed_tup, closed_vs, closed_vp, closed_iface, closed_fn, closeds_cI, closeds_cE, viewA_closed, viewR_closed, AV.scal, AV.scal0, fillA, repA, part_bool, part_int, part_str, part_nilp, part_ptr, part_nils, part_sl, part_nilm, part_mp, part_nilf, part_fn, part_nili, part_iface, part_agg, part_vs, part_vp, viewA_sl1, vaSl_cells, wrap_0, wrap_1, wrap_2, wrap_m1, set_last, get_last, er22_0, er22_1, er22_2, er22_3, er22_4, er22_5, er22_6, er22_8, er22_9, hlen, k1, k2, k3, hva, hNE, nR, hfin, e0', e0m, hone, hcell, hset, hcl, resK, resVs, resV, pack]
      · simp [↓getD_z, ↓getD_s, -List.getD_eq_getElem?_getD, -Int.ofNat_toNat, -getElem?_pos, gz, ↓hid_k, ↓hid_o, ↓hid_q, ↓hid_v, ↓PO_nil, ↓PO_none, ↓PO_grd, ↓PD_nil, ↓PD_none, ↓PD_grd, ↓PDO_N, ↓PDO_X, ↓PDO_call, ↓PDO_calli, ↓PDO_callv, PDX_free, PDX_eq, ↓PStep_N, ↓PStep_X, ↓PStep_call, ↓PStep_calli, PStep_callv, ↓PC_skip, ↓PC_lab, ↓PC_ret, ↓PC_exit, ↓PC_reg, ↓PC_draw, ↓PC_seq, ↓PC_block, ↓PC_loop, ↓PC_scope, ↓PC_cond, ↓thenC_norm, ↓thenC_ret, ↓thenC_exit, ↓blockC_norm, ↓blockC_ret, ↓blockC_exit, ↓loopC_norm, ↓loopC_ret, ↓loopC_exit, ↓endR_ret, ↓endR_norm, resK_none, resK_t, resK_tt, KNO_val, KNO_new, KNO_ite, KNO_map, KXO_some, KXO_ite, KVA_t, KVA_f, KG_skip, KG_tt, KG_ff, KG_tf, KG_ft, KB_true, KB_false, KNOD_val, KNOD_new, KNOD_ite, n_mv, n_pick, n_bin, n_eqB, n_eqN, n_eqS, n_un, n_conv, n_fadd, n_faddV, n_fld1, n_fldN, n_idx, n_idxA, n_idxV, n_idxAV, n_ext, n_lenS, n_lenS0, n_lenV, n_lenT, n_lenA, n_min, n_max, n_build, n_mkfn, n_slc, n_slc0, n_slcV, n_slcA, n_load1, n_loadN, n_load1V, n_loadNV, n_alloc, n_box, n_bsl, n_mksl, n_nilcP, n_nilcV, n_nilcI, n_nilcF, x_store, x_clear0, x_clear, b_add, b_sub, b_mul, b_eql, b_neq, b_lss, b_leq, b_gtr, b_geq, b_and16, unV, ntouch, gather, hide, unhide, evalOpd, applyOuts, int_bne, int_beq, ite_bool, ite_int, one_bool, cells_bool, one_int, cells_int, one_str, cells_str, one_nilp, cells_nilp, one_ptr, cells_ptr, one_nils, cells_nils, one_sl, cells_sl, one_nilf, cells_nilf, one_fn, cells_fn, one_nili, cells_nili, one_mp, cells_mp, one_nilm, cells_nilm, one_iface, cells_iface, one_vs, cells_vs, one_vp, cells_vp, cells_agg, Nat.testBit, setAt_1, setAt_2, closeds_nil, closeds_cons, closed_bool, closed_int, closed_str, closed_nilp, closed_nils, closed_nilm, closed_nilf, closed_nili, closed_agg, closed_tup, closed_vs, closed_vp, closed_iface, closed_fn, closeds_cI, closeds_cE, viewA_closed, viewR_closed, AV.scal, AV.scal0, fillA, repA, part_bool, part_int, part_str, part_nilp, part_ptr, part_nils, part_sl, part_nilm, part_mp, part_nilf, part_fn, part_nili, part_iface, part_agg, part_vs, part_vp, viewA_sl1, vaSl_cells, wrap_0, wrap_1, wrap_2, wrap_m1, set_last, get_last, er22_0, er22_1, er22_2, er22_3, er22_4, er22_5, er22_6, er22_8, er22_9, hlen, k1, k2, hva, hNE, nR, hfin, e0', e0m, hone, hcell, hset, hcl, resK, resVs, resV, pack]
    · simp [↓getD_z, ↓getD_s, -List.getD_eq_getElem?_getD, -Int.ofNat_toNat, -getElem?_pos, gz, ↓hid_k, ↓hid_o, ↓hid_q, ↓hid_v, ↓PO_nil, ↓PO_none, ↓PO_grd, ↓PD_nil, ↓PD_none, ↓PD_grd, ↓PDO_N, ↓PDO_X, ↓PDO_call, ↓PDO_calli, ↓PDO_callv, PDX_free, PDX_eq, ↓PStep_N, ↓PStep_X, ↓PStep_call, ↓PStep_calli, PStep_callv, ↓PC_skip, ↓PC_lab, ↓PC_ret, ↓PC_exit, ↓PC_reg, ↓PC_draw, ↓PC_seq, ↓PC_block, ↓PC_loop, ↓PC_scope, ↓PC_cond, ↓thenC_norm, ↓thenC_ret, ↓thenC_exit, ↓blockC_norm, ↓blockC_ret, ↓blockC_exit, ↓loopC_norm, ↓loopC_ret, ↓loopC_exit, ↓endR_ret, ↓endR_norm, resK_none, resK_t, resK_tt, KNO_val, KNO_new, KNO_ite, KNO_map, KXO_some, KXO_ite, KVA_t, KVA_f, KG_skip, KG_tt, KG_ff, KG_tf, KG_ft, KB_true, KB_false, KNOD_val, KNOD_new, KNOD_ite, n_mv, n_pick, n_bin, n_eqB, n_eqN, n_eqS, n_un, n_conv, n_fadd, n_faddV, n_fld1, n_fldN, n_idx, n_idxA, n_idxV, n_idxAV, n_ext, n_lenS, n_lenS0, n_lenV, n_lenT, n_lenA, n_min, n_max, n_build, n_mkfn, n_slc, n_slc0, n_slcV, n_slcA, n_load1, n_loadN, n_load1V, n_loadNV, n_alloc, n_box, n_bsl, n_mksl, n_nilcP, n_nilcV, n_nilcI, n_nilcF, x_store, x_clear0, x_clear, b_add, b_sub, b_mul, b_eql, b_neq, b_lss, b_leq, b_gtr, b_geq, b_and16, unV, ntouch, gather, hide, unhide, evalOpd, applyOuts, int_bne, int_beq, ite_bool, ite_int, one_bool, cells_bool, one_int, cells_int, one_str, cells_str, one_nilp, cells_nilp, one_ptr, cells_ptr, one_nils, cells_nils, one_sl, cells_sl, one_nilf, cells_nilf, one_fn, cells_fn, one_nili, cells_nili, one_mp, cells_mp, one_nilm, cells_nilm, one_iface, cells_iface, one_vs, cells_vs, one_vp, cells_vp, cells_agg, Nat.testBit, setAt_1, setAt_2, closeds_nil, closeds_cons, closed_bool, closed_int, closed_str, closed_nilp, closed_nils, closed_nilm, closed_nilf, closed_nili, closed_agg, closed_tup, closed_vs, closed_vp, closed_iface, closed_fn, closeds_cI, closeds_cE, viewA_closed, viewR_closed, AV.scal, AV.scal0, fillA, repA, part_bool, part_int, part_str, part_nilp, part_ptr, part_nils, part_sl, part_nilm, part_mp, part_nilf, part_fn, part_nili, part_iface, part_agg, part_vs, part_vp, viewA_sl1, vaSl_cells, wrap_0, wrap_1, wrap_2, wrap_m1, set_last, get_last, er22_0, er22_1, er22_2, er22_3, er22_4, er22_5, er22_6, er22_8, er22_9, hlen, k1, hva, hNE, nR, hfin, e0', e0m, hone, hcell, hset, hcl, resK, resVs, resV, pack]
theorem w_Of (h : Has A (φ 39) (f39 φ)) (h2 : ∀ n most v l, IsE v l → 0 ≤ most → most ≤ 1000 → PVal A (φ 22) [.int .i64 n, v, .int .i64 most] (gV (anyN n most) (rE (anyE n most l)))) (n most : Int) (v : AV) (l : List Ed) (hv : IsE v l) (h0 : 0 ≤ most) (h1 : most ≤ 1000) :
    PVal A (φ 39) [gV n v, .int .i64 most] (gV (anyN n most) (rE (anyE n most l))) := by
  have hE := (h2 n most v l hv h0 h1).eq
  have hcl : (rE (anyE n most l)).closed = true := (isE_r _).closed
  have hone : (rE (anyE n most l)).one = true := (isE_r _).one
  have hcell : (rE (anyE n most l)).cells = [rE (anyE n most l)] := (isE_r _).cells
  refine pval_has h rfl ?_
  simp only [b39, f39]
  simp [↓getD_z, ↓getD_s, -List.getD_eq_getElem?_getD, -Int.ofNat_toNat, -getElem?_pos, gz, ↓hid_k, ↓hid_o, ↓hid_q, ↓hid_v, ↓PO_nil, ↓PO_none, ↓PO_grd, ↓PD_nil, ↓PD_none, ↓PD_grd, ↓PDO_N, ↓PDO_X, ↓PDO_call, ↓PDO_calli, ↓PDO_callv, PDX_free, PDX_eq, ↓PStep_N, ↓PStep_X, ↓PStep_call, ↓PStep_calli, PStep_callv, ↓PC_skip, ↓PC_lab, ↓PC_ret, ↓PC_exit, ↓PC_reg, ↓PC_draw, ↓PC_seq, ↓PC_block, ↓PC_loop, ↓PC_scope, ↓PC_cond, ↓thenC_norm, ↓thenC_ret, ↓thenC_exit, ↓blockC_norm, ↓blockC_ret, ↓blockC_exit, ↓loopC_norm, ↓loopC_ret, ↓loopC_exit, ↓endR_ret, ↓endR_norm, resK_none, resK_t, resK_tt, KNO_val, KNO_new, KNO_ite, KNO_map, KXO_some, KXO_ite, KVA_t, KVA_f, KG_skip, KG_tt, KG_ff, KG_tf, KG_ft, KB_true, KB_false, KNOD_val, KNOD_new, KNOD_ite, n_mv, n_pick, n_bin, n_eqB, n_eqN, n_eqS, n_un, n_conv, n_fadd, n_faddV, n_fld1, n_fldN, n_idx, n_idxA, n_idxV, n_idxAV, n_ext, n_lenS, n_lenS0, n_lenV, n_lenT, n_lenA, n_min, n_max, n_build, n_mkfn, n_slc, n_slc0, n_slcV, n_slcA, n_load1, n_loadN, n_load1V, n_loadNV, n_alloc, n_box, n_bsl, n_mksl, n_nilcP, n_nilcV, n_nilcI, n_nilcF, x_store, x_clear0, x_clear, b_add, b_sub, b_mul, b_eql, b_neq, b_lss, b_leq, b_gtr, b_geq, b_and16, unV, ntouch, gather, hide, unhide, evalOpd, applyOuts, int_bne, int_beq, ite_bool, ite_int, one_bool, cells_bool, one_int, cells_int, one_str, cells_str, one_nilp, cells_nilp, one_ptr, cells_ptr, one_nils, cells_nils, one_sl, cells_sl, one_nilf, cells_nilf, one_fn, cells_fn, one_nili, cells_nili, one_mp, cells_mp, one_nilm, cells_nilm, one_iface, cells_iface, one_vs, cells_vs, one_vp, cells_vp, cells_agg, Nat.testBit, setAt_1, setAt_2, closeds_nil, closeds_cons, closed_bool, closed_int, closed_str, closed_nilp, closed_nils, closed_nilm, closed_nilf, closed_nili, closed_agg, closed_tup, closed_vs, closed_vp, closed_iface, closed_fn, closeds_cI, closeds_cE, viewA_closed, viewR_closed, AV.scal, AV.scal0, fillA, repA, part_bool, part_int, part_str, part_nilp, part_ptr, part_nils, part_sl, part_nilm, part_mp, part_nilf, part_fn, part_nili, part_iface, part_agg, part_vs, part_vp, viewA_sl1, vaSl_cells, wrap_0, wrap_1, wrap_2, wrap_m1, set_last, get_last, er39_0, er39_1, hv.one, hv.closed, hE, hone, hcell, hcl, resK, resVs, resV, pack]
end Go.Ai.G
