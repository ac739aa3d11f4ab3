/- A part of what the law leans on: the abstract machine, the contracts, the rows. -/
import Derived.Test.YtdjanabcicdmlaaK6
import Derived.Test.YtdjanabcicdmlaaK5
namespace Go.Ai.G
open Go.Ai
set_option maxRecDepth 100000
set_option linter.unusedSimpArgs false
set_option linter.unusedVariables false
variable {A : AProg} {φ : Nat → Nat}
theorem er11_0 (φ : Nat → Nat) : r11_0 φ = [
  ⟨0, .N .mv, [.c (.bool false)], none, 0⟩] := Eq.trans rfl rfl
theorem er11_1 (φ : Nat → Nat) : r11_1 φ = [
  ⟨0, .N .mv, [.n 0], none, 0⟩,
  ⟨1, .N .lenS, [.l 0], none, 0⟩,
  ⟨2, .N .mv, [.n 1], none, 0⟩,
  ⟨3, .N .lenS, [.l 0], none, 0⟩,
  ⟨4, .N (.bin .neq), [.l 2, .l 0], none, 0⟩] := Eq.trans rfl rfl
theorem er11_2 (φ : Nat → Nat) : r11_2 φ = [
  ⟨0, .N .mv, [.c (.bool false)], none, 0⟩] := Eq.trans rfl rfl
theorem er11_3 (φ : Nat → Nat) : r11_3 φ = [
  ⟨0, .N .mv, [.c (.int .i64 0)], none, 0⟩] := Eq.trans rfl rfl
theorem er11_4 (φ : Nat → Nat) : r11_4 φ = [
  ⟨0, .N .mv, [.n 3], none, 0⟩,
  ⟨1, .N .mv, [.n 0], none, 0⟩,
  ⟨2, .N .lenS, [.l 0], none, 0⟩,
  ⟨3, .N (.bin .lss), [.l 2, .l 0], none, 0⟩] := Eq.trans rfl rfl
theorem er11_5 (φ : Nat → Nat) : r11_5 φ = [
  ⟨0, .N .mv, [.n 0], none, 0⟩,
  ⟨1, .N .mv, [.n 3], none, 0⟩,
  ⟨2, .N (.idx 1), [.l 1, .l 0], none, 3⟩,
  ⟨3, .N .load1, [.l 0], none, 7⟩,
  ⟨4, .N .mv, [.n 1], none, 0⟩,
  ⟨5, .N .mv, [.n 3], none, 0⟩,
  ⟨6, .N (.idx 1), [.l 1, .l 0], none, 48⟩,
  ⟨7, .N .load1, [.l 0], none, 112⟩,
  ⟨8, .N (.bin .neq), [.l 4, .l 0], none, 255⟩] := Eq.trans rfl rfl
theorem er11_6 (φ : Nat → Nat) : r11_6 φ = [
  ⟨0, .N .mv, [.c (.bool false)], none, 0⟩] := Eq.trans rfl rfl
theorem er11_7 (φ : Nat → Nat) : r11_7 φ = [
  ⟨0, .N .mv, [.n 3], none, 0⟩,
  ⟨1, .N (.bin .add), [.l 0, .c (.int .i64 1)], none, 0⟩,
  ⟨2, .N .mv, [.l 0], none, 0⟩] := Eq.trans rfl rfl
theorem er11_9 (φ : Nat → Nat) : r11_9 φ = [
  ⟨0, .N .mv, [.c (.bool true)], none, 0⟩] := Eq.trans rfl rfl
theorem er25_0 (φ : Nat → Nat) : r25_0 φ = [
  ⟨0, .N .mv, [.c (.bool false)], none, 0⟩] := Eq.trans rfl rfl
theorem er25_1 (φ : Nat → Nat) : r25_1 φ = [
  ⟨0, .N .mv, [.c (.int .i64 0)], none, 0⟩] := Eq.trans rfl rfl
theorem er25_2 (φ : Nat → Nat) : r25_2 φ = [
  ⟨0, .N .mv, [.n 3], none, 0⟩,
  ⟨1, .N .mv, [.n 0], none, 0⟩,
  ⟨2, .N .lenS, [.l 0], none, 0⟩,
  ⟨3, .N (.bin .lss), [.l 2, .l 0], none, 0⟩] := Eq.trans rfl rfl
theorem er25_3 (φ : Nat → Nat) : r25_3 φ = [
  ⟨0, .N .mv, [.n 0], none, 0⟩,
  ⟨1, .N .mv, [.n 3], none, 0⟩,
  ⟨2, .N (.idx 1), [.l 1, .l 0], none, 0⟩,
  ⟨3, .N .load1, [.l 0], none, 0⟩,
  ⟨4, .N .mv, [.n 1], none, 0⟩,
  ⟨5, .N (.bin .eql), [.l 1, .l 0], none, 0⟩] := Eq.trans rfl rfl
theorem er25_4 (φ : Nat → Nat) : r25_4 φ = [
  ⟨0, .N .mv, [.c (.bool true)], none, 0⟩] := Eq.trans rfl rfl
theorem er25_5 (φ : Nat → Nat) : r25_5 φ = [
  ⟨0, .N .mv, [.n 3], none, 0⟩,
  ⟨1, .N (.bin .add), [.l 0, .c (.int .i64 1)], none, 0⟩,
  ⟨2, .N .mv, [.l 0], none, 0⟩] := Eq.trans rfl rfl
theorem er25_7 (φ : Nat → Nat) : r25_7 φ = [
  ⟨0, .N .mv, [.c (.bool false)], none, 0⟩] := Eq.trans rfl rfl
theorem er23_0 (φ : Nat → Nat) : r23_0 φ = [
  ⟨0, .N .mv, [.c (.bool false)], none, 0⟩] := Eq.trans rfl rfl
theorem er23_1 (φ : Nat → Nat) : r23_1 φ = [
  ⟨0, .N .mv, [.n 0], none, 0⟩,
  ⟨1, .N .lenS, [.l 0], none, 0⟩,
  ⟨2, .N .mv, [.n 1], none, 0⟩,
  ⟨3, .N .lenS, [.l 0], none, 0⟩,
  ⟨4, .N (.bin .neq), [.l 2, .l 0], none, 0⟩] := Eq.trans rfl rfl
theorem er23_2 (φ : Nat → Nat) : r23_2 φ = [
  ⟨0, .N .mv, [.c (.bool false)], none, 0⟩] := Eq.trans rfl rfl
theorem er23_3 (φ : Nat → Nat) : r23_3 φ = [
  ⟨0, .N .mv, [.c (.int .i64 0)], none, 0⟩] := Eq.trans rfl rfl
theorem er23_4 (φ : Nat → Nat) : r23_4 φ = [
  ⟨0, .N .mv, [.n 3], none, 0⟩,
  ⟨1, .N .mv, [.n 0], none, 0⟩,
  ⟨2, .N .lenS, [.l 0], none, 0⟩,
  ⟨3, .N (.bin .lss), [.l 2, .l 0], none, 0⟩] := Eq.trans rfl rfl
theorem er23_5 (φ : Nat → Nat) : r23_5 φ = [
  ⟨0, .N .mv, [.n 0], none, 0⟩,
  ⟨1, .N .mv, [.n 3], none, 0⟩,
  ⟨2, .N (.idx 2), [.l 1, .l 0], none, 3⟩,
  ⟨3, .N (.loadN 2), [.l 0], none, 7⟩,
  ⟨4, .N .mv, [.n 1], none, 0⟩,
  ⟨5, .N .mv, [.n 3], none, 0⟩,
  ⟨6, .N (.idx 2), [.l 1, .l 0], none, 48⟩,
  ⟨7, .N (.loadN 2), [.l 0], none, 112⟩,
  ⟨8, .N (.eqS [1, 1] true), [.l 4, .l 0], none, 255⟩] := Eq.trans rfl rfl
theorem er23_6 (φ : Nat → Nat) : r23_6 φ = [
  ⟨0, .N .mv, [.c (.bool false)], none, 0⟩] := Eq.trans rfl rfl
theorem er23_7 (φ : Nat → Nat) : r23_7 φ = [
  ⟨0, .N .mv, [.n 3], none, 0⟩,
  ⟨1, .N (.bin .add), [.l 0, .c (.int .i64 1)], none, 0⟩,
  ⟨2, .N .mv, [.l 0], none, 0⟩] := Eq.trans rfl rfl
theorem er23_9 (φ : Nat → Nat) : r23_9 φ = [
  ⟨0, .N .mv, [.c (.bool true)], none, 0⟩] := Eq.trans rfl rfl
theorem er3_0 (φ : Nat → Nat) : r3_0 φ = [
  ⟨0, .N .box, [.n 0], none, 0⟩,
  ⟨1, .N .box, [.n 1], none, 0⟩,
  ⟨2, .N .mv, [.c (.bool false)], none, 0⟩] := Eq.trans rfl rfl
theorem er3_1 (φ : Nat → Nat) : r3_1 φ = [
  ⟨0, .N (.fadd 0), [.n 2], none, 0⟩,
  ⟨1, .N .load1, [.l 0], none, 0⟩,
  ⟨2, .N (.fadd 0), [.n 3], none, 0⟩,
  ⟨3, .N .load1, [.l 0], none, 0⟩,
  ⟨4, .N (.bin .eql), [.l 2, .l 0], none, 0⟩,
  ⟨5, .N .mv, [.l 0], none, 0⟩,
  ⟨6, .N (.fadd 1), [.n 2], some (.l 0, true), 0⟩,
  ⟨7, .N .load1, [.l 0], some (.l 1, true), 0⟩,
  ⟨8, .N (.fadd 1), [.n 3], some (.l 2, true), 0⟩,
  ⟨9, .N .load1, [.l 0], some (.l 3, true), 0⟩,
  ⟨10, .calli true (φ 23), [.l 2, .l 0], some (.l 4, true), 0⟩,
  ⟨11, .N .pick, [.l 5, .l 0, .c (.bool false)], none, 0⟩,
  ⟨12, .N .mv, [.l 0], none, 0⟩] := Eq.trans rfl rfl
theorem er30_0 (φ : Nat → Nat) : r30_0 φ = [
  ⟨0, .N .mv, [.c (.nils)], none, 0⟩] := Eq.trans rfl rfl
theorem er30_1 (φ : Nat → Nat) : r30_1 φ = [
  ⟨0, .N (.bsl [.int .i64 0] 0 1 []), [], none, 0⟩,
  ⟨1, .N .mv, [.l 0], none, 0⟩] := Eq.trans rfl rfl
theorem er30_2 (φ : Nat → Nat) : r30_2 φ = [
  ⟨0, .N .mv, [.c (.int .i64 0)], none, 0⟩] := Eq.trans rfl rfl
theorem er30_3 (φ : Nat → Nat) : r30_3 φ = [
  ⟨0, .N .mv, [.n 3], none, 0⟩,
  ⟨1, .N .mv, [.n 0], none, 0⟩,
  ⟨2, .N .lenS, [.l 0], none, 0⟩,
  ⟨3, .N (.bin .lss), [.l 2, .l 0], none, 0⟩] := Eq.trans rfl rfl
theorem er30_4 (φ : Nat → Nat) : r30_4 φ = [
  ⟨0, .N .mv, [.n 2], none, 0⟩,
  ⟨1, .N .lenS, [.l 0], none, 0⟩,
  ⟨2, .N .mv, [.l 0], none, 0⟩] := Eq.trans rfl rfl
theorem er30_5 (φ : Nat → Nat) : r30_5 φ = [
  ⟨0, .N .mv, [.n 4], none, 0⟩,
  ⟨1, .N (.bin .gtr), [.l 0, .c (.int .i64 0)], none, 1⟩,
  ⟨2, .N .mv, [.l 0], none, 3⟩,
  ⟨3, .N .mv, [.n 2], some (.l 0, true), 7⟩,
  ⟨4, .N .mv, [.n 4], some (.l 1, true), 7⟩,
  ⟨5, .N (.bin .sub), [.l 0, .c (.int .i64 1)], some (.l 2, true), 23⟩,
  ⟨6, .N (.idx 1), [.l 2, .l 0], some (.l 3, true), 63⟩,
  ⟨7, .N .load1, [.l 0], some (.l 4, true), 127⟩,
  ⟨8, .N .mv, [.n 0], some (.l 5, true), 7⟩,
  ⟨9, .N .mv, [.n 3], some (.l 6, true), 7⟩,
  ⟨10, .N (.idx 1), [.l 1, .l 0], some (.l 7, true), 775⟩,
  ⟨11, .N .load1, [.l 0], some (.l 8, true), 1799⟩,
  ⟨12, .N (.bin .gtr), [.l 4, .l 0], some (.l 9, true), 4095⟩,
  ⟨13, .N .pick, [.l 10, .l 0, .c (.bool false)], none, 8191⟩] := Eq.trans rfl rfl
theorem er30_6 (φ : Nat → Nat) : r30_6 φ = [
  ⟨0, .N .mv, [.n 4], none, 0⟩,
  ⟨1, .N (.bin .sub), [.l 0, .c (.int .i64 1)], none, 0⟩,
  ⟨2, .N .mv, [.l 0], none, 0⟩] := Eq.trans rfl rfl
theorem er30_8 (φ : Nat → Nat) : r30_8 φ = [
  ⟨0, .N .mv, [.n 2], none, 0⟩,
  ⟨1, .N (.bsl [.int .i64 0] 1 1 [(0, 1)]), [.c (.int .i64 0)], none, 0⟩,
  ⟨2, .X (.app 1 8), [.l 1, .l 0], none, 0⟩,
  ⟨3, .N .mv, [.l 0], none, 0⟩] := Eq.trans rfl rfl
theorem er30_9 (φ : Nat → Nat) : r30_9 φ = [
  ⟨0, .N .mv, [.n 2], none, 0⟩,
  ⟨1, .N .mv, [.n 4], none, 0⟩,
  ⟨2, .N (.bin .add), [.l 0, .c (.int .i64 1)], none, 2⟩,
  ⟨3, .N (.slc 1 true false false), [.l 2, .l 0], none, 7⟩,
  ⟨4, .N .mv, [.n 2], none, 0⟩,
  ⟨5, .N .mv, [.n 4], none, 0⟩,
  ⟨6, .N (.slc 1 true false false), [.l 1, .l 0], none, 48⟩,
  ⟨7, .X (.copy 1), [.l 3, .l 0], none, 127⟩] := Eq.trans rfl rfl
theorem er30_10 (φ : Nat → Nat) : r30_10 φ = [
  ⟨0, .N .mv, [.n 2], none, 0⟩,
  ⟨1, .N .mv, [.n 4], none, 0⟩,
  ⟨2, .N .mv, [.n 0], none, 0⟩,
  ⟨3, .N .mv, [.n 3], none, 0⟩,
  ⟨4, .N (.idx 1), [.l 1, .l 0], none, 0⟩,
  ⟨5, .N .load1, [.l 0], none, 0⟩,
  ⟨6, .N (.idx 1), [.l 5, .l 4], none, 0⟩,
  ⟨7, .X (.store 1), [.l 0, .l 1], none, 0⟩] := Eq.trans rfl rfl
theorem er30_11 (φ : Nat → Nat) : r30_11 φ = [
  ⟨0, .N .mv, [.n 3], none, 0⟩,
  ⟨1, .N (.bin .add), [.l 0, .c (.int .i64 1)], none, 0⟩,
  ⟨2, .N .mv, [.l 0], none, 0⟩] := Eq.trans rfl rfl
theorem er30_13 (φ : Nat → Nat) : r30_13 φ = [
  ⟨0, .N .mv, [.n 2], none, 0⟩,
  ⟨1, .N .mv, [.l 0], none, 0⟩] := Eq.trans rfl rfl
theorem w_Same (h : Has A (φ 11) (f11 φ)) (v u : AV) (xs ys : List Int) (hv : IsI v xs) (hu : IsI u ys) (hn : xs.length < 1000000000000) : PVal A (φ 11) [v, u] (.bool (decide (xs = ys))) := by
  have l1 := hv.len; have l2 := hu.len
  refine pval_has h rfl ?_
  simp only [l11_8, b11, f11]
  by_cases hl : xs.length = ys.length
  · have hl' : (xs.length : Int) = ys.length := by omega
    simp [↓getD_z, ↓getD_s, -List.getD_eq_getElem?_getD, -Int.ofNat_toNat, -getElem?_pos, gz, ↓hid_k, ↓hid_o, ↓hid_q, ↓hid_v, ↓PO_nil, ↓PO_none, ↓PO_grd, ↓PD_nil, ↓PD_none, ↓PD_grd, ↓PDO_N, ↓PDO_X, ↓PDO_call, ↓PDO_calli, ↓PDO_callv, PDX_free, PDX_eq, ↓PStep_N, ↓PStep_X, ↓PStep_call, ↓PStep_calli, PStep_callv, ↓PC_skip, ↓PC_lab, ↓PC_ret, ↓PC_exit, ↓PC_reg, ↓PC_draw, ↓PC_seq, ↓PC_block, ↓PC_loop, ↓PC_scope, ↓PC_cond, ↓thenC_norm, ↓thenC_ret, ↓thenC_exit, ↓blockC_norm, ↓blockC_ret, ↓blockC_exit, ↓loopC_norm, ↓loopC_ret, ↓loopC_exit, ↓endR_ret, ↓endR_norm, resK_none, resK_t, resK_tt, KNO_val, KNO_new, KNO_ite, KNO_map, KXO_some, KXO_ite, KVA_t, KVA_f, KG_skip, KG_tt, KG_ff, KG_tf, KG_ft, KB_true, KB_false, KNOD_val, KNOD_new, KNOD_ite, n_mv, n_pick, n_bin, n_eqB, n_eqN, n_eqS, n_un, n_conv, n_fadd, n_faddV, n_fld1, n_fldN, n_idx, n_idxA, n_idxV, n_idxAV, n_ext, n_lenS, n_lenS0, n_lenV, n_lenT, n_lenA, n_min, n_max, n_build, n_mkfn, n_slc, n_slc0, n_slcV, n_slcA, n_load1, n_loadN, n_load1V, n_loadNV, n_alloc, n_box, n_bsl, n_mksl, n_nilcP, n_nilcV, n_nilcI, n_nilcF, x_store, x_clear0, x_clear, b_add, b_sub, b_mul, b_eql, b_neq, b_lss, b_leq, b_gtr, b_geq, b_and16, unV, ntouch, gather, hide, unhide, evalOpd, applyOuts, int_bne, int_beq, ite_bool, ite_int, one_bool, cells_bool, one_int, cells_int, one_str, cells_str, one_nilp, cells_nilp, one_ptr, cells_ptr, one_nils, cells_nils, one_sl, cells_sl, one_nilf, cells_nilf, one_fn, cells_fn, one_nili, cells_nili, one_mp, cells_mp, one_nilm, cells_nilm, one_iface, cells_iface, one_vs, cells_vs, one_vp, cells_vp, cells_agg, Nat.testBit, setAt_1, setAt_2, closeds_nil, closeds_cons, closed_bool, closed_int, closed_str, closed_nilp, closed_nils, closed_nilm, closed_nilf, closed_nili, closed_agg, closed_tup, closed_vs, closed_vp, closed_iface, closed_fn, closeds_cI, closeds_cE, viewA_closed, viewR_closed, AV.scal, AV.scal0, fillA, repA, part_bool, part_int, part_str, part_nilp, part_ptr, part_nils, part_sl, part_nilm, part_mp, part_nilf, part_fn, part_nili, part_iface, part_agg, part_vs, part_vp, viewA_sl1, vaSl_cells, wrap_0, wrap_1, wrap_2, wrap_m1, set_last, get_last, er11_0, er11_1, er11_2, er11_3, er11_4, er11_5, er11_6, er11_7, er11_9, l1, l2, hl]
    refine pc_loopI (fun m st => ∃ (i : Nat) (q r : AV), i + m = xs.length ∧ xs.take i = ys.take i ∧ st = ([v, u, .bool false, .int .i64 i, .bool false, q, r], [])) xs.length ⟨0, _, _, by simp, by simp, rfl⟩ ?_
    rintro m st ⟨i, q, r, hi, hp, rfl⟩
    by_cases hlt : i < xs.length
    · obtain ⟨i1, g1⟩ := hv.at hlt
      obtain ⟨i2, g2⟩ := hu.at (i := i) (by omega)
      have hw := wrap1 hlt (by omega)
      have hlt' : (i : Int) < xs.length := by omega
      by_cases hx : xs[i] = ys[i]
      · simp [↓getD_z, ↓getD_s, -List.getD_eq_getElem?_getD, -Int.ofNat_toNat, -getElem?_pos, gz, ↓hid_k, ↓hid_o, ↓hid_q, ↓hid_v, ↓PO_nil, ↓PO_none, ↓PO_grd, ↓PD_nil, ↓PD_none, ↓PD_grd, ↓PDO_N, ↓PDO_X, ↓PDO_call, ↓PDO_calli, ↓PDO_callv, PDX_free, PDX_eq, ↓PStep_N, ↓PStep_X, ↓PStep_call, ↓PStep_calli, PStep_callv, ↓PC_skip, ↓PC_lab, ↓PC_ret, ↓PC_exit, ↓PC_reg, ↓PC_draw, ↓PC_seq, ↓PC_block, ↓PC_loop, ↓PC_scope, ↓PC_cond, ↓thenC_norm, ↓thenC_ret, ↓thenC_exit, ↓blockC_norm, ↓blockC_ret, ↓blockC_exit, ↓loopC_norm, ↓loopC_ret, ↓loopC_exit, ↓endR_ret, ↓endR_norm, resK_none, resK_t, resK_tt, KNO_val, KNO_new, KNO_ite, KNO_map, KXO_some, KXO_ite, KVA_t, KVA_f, KG_skip, KG_tt, KG_ff, KG_tf, KG_ft, KB_true, KB_false, KNOD_val, KNOD_new, KNOD_ite, n_mv, n_pick, n_bin, n_eqB, n_eqN, n_eqS, n_un, n_conv, n_fadd, n_faddV, n_fld1, n_fldN, n_idx, n_idxA, n_idxV, n_idxAV, n_ext, n_lenS, n_lenS0, n_lenV, n_lenT, n_lenA, n_min, n_max, n_build, n_mkfn, n_slc, n_slc0, n_slcV, n_slcA, n_load1, n_loadN, n_load1V, n_loadNV, n_alloc, n_box, n_bsl, n_mksl, n_nilcP, n_nilcV, n_nilcI, n_nilcF, x_store, x_clear0, x_clear, b_add, b_sub, b_mul, b_eql, b_neq, b_lss, b_leq, b_gtr, b_geq, b_and16, unV, ntouch, gather, hide, unhide, evalOpd, applyOuts, int_bne, int_beq, ite_bool, ite_int, one_bool, cells_bool, one_int, cells_int, one_str, cells_str, one_nilp, cells_nilp, one_ptr, cells_ptr, one_nils, cells_nils, one_sl, cells_sl, one_nilf, cells_nilf, one_fn, cells_fn, one_nili, cells_nili, one_mp, cells_mp, one_nilm, cells_nilm, one_iface, cells_iface, one_vs, cells_vs, one_vp, cells_vp, cells_agg, Nat.testBit, setAt_1, setAt_2, closeds_nil, closeds_cons, closed_bool, closed_int, closed_str, closed_nilp, closed_nils, closed_nilm, closed_nilf, closed_nili, closed_agg, closed_tup, closed_vs, closed_vp, closed_iface, closed_fn, closeds_cI, closeds_cE, viewA_closed, viewR_closed, AV.scal, AV.scal0, fillA, repA, part_bool, part_int, part_str, part_nilp, part_ptr, part_nils, part_sl, part_nilm, part_mp, part_nilf, part_fn, part_nili, part_iface, part_agg, part_vs, part_vp, viewA_sl1, vaSl_cells, wrap_0, wrap_1, wrap_2, wrap_m1, set_last, get_last, er11_0, er11_1, er11_2, er11_3, er11_4, er11_5, er11_6, er11_7, er11_9, l1, hlt, i1, i2, g1, g2, hx, hw]
        refine next_mk (m - 1) (by omega) ⟨i + 1, _, _, by omega, ?_, rfl⟩
        rw [List.take_succ_eq_append_getElem hlt, List.take_succ_eq_append_getElem (by omega : i < ys.length), hp, hx]
      · have hr : ¬ xs = ys := fun h => hx (by simp [h])
        simp [↓getD_z, ↓getD_s, -List.getD_eq_getElem?_getD, -Int.ofNat_toNat, -getElem?_pos, gz, ↓hid_k, ↓hid_o, ↓hid_q, ↓hid_v, ↓PO_nil, ↓PO_none, ↓PO_grd, ↓PD_nil, ↓PD_none, ↓PD_grd, ↓PDO_N, ↓PDO_X, ↓PDO_call, ↓PDO_calli, ↓PDO_callv, PDX_free, PDX_eq, ↓PStep_N, ↓PStep_X, ↓PStep_call, ↓PStep_calli, PStep_callv, ↓PC_skip, ↓PC_lab, ↓PC_ret, ↓PC_exit, ↓PC_reg, ↓PC_draw, ↓PC_seq, ↓PC_block, ↓PC_loop, ↓PC_scope, ↓PC_cond, ↓thenC_norm, ↓thenC_ret, ↓thenC_exit, ↓blockC_norm, ↓blockC_ret, ↓blockC_exit, ↓loopC_norm, ↓loopC_ret, ↓loopC_exit, ↓endR_ret, ↓endR_norm, resK_none, resK_t, resK_tt, KNO_val, KNO_new, KNO_ite, KNO_map, KXO_some, KXO_ite, KVA_t, KVA_f, KG_skip, KG_tt, KG_ff, KG_tf, KG_ft, KB_true, KB_false, KNOD_val, KNOD_new, KNOD_ite, n_mv, n_pick, n_bin, n_eqB, n_eqN, n_eqS, n_un, n_conv, n_fadd, n_faddV, n_fld1, n_fldN, n_idx, n_idxA, n_idxV, n_idxAV, n_ext, n_lenS, n_lenS0, n_lenV, n_lenT, n_lenA, n_min, n_max, n_build, n_mkfn, n_slc, n_slc0, n_slcV, n_slcA, n_load1, n_loadN, n_load1V, n_loadNV, n_alloc, n_box, n_bsl, n_mksl, n_nilcP, n_nilcV, n_nilcI, n_nilcF, x_store, x_clear0, x_clear, b_add, b_sub, b_mul, b_eql, b_neq, b_lss, b_leq, b_gtr, b_geq, b_and16, unV, ntouch, gather, hide, unhide, evalOpd, applyOuts, int_bne, int_beq, ite_bool, ite_int, one_bool, cells_bool, one_int, cells_int, one_str, cells_str, one_nilp, cells_nilp, one_ptr, cells_ptr, one_nils, cells_nils, one_sl, cells_sl, one_nilf, cells_nilf, one_fn, cells_fn, one_nili, cells_nili, one_mp, cells_mp, one_nilm, cells_nilm, one_iface, cells_iface, one_vs, cells_vs, one_vp, cells_vp, cells_agg, Nat.testBit, setAt_1, setAt_2, closeds_nil, closeds_cons, closed_bool, closed_int, closed_str, closed_nilp, closed_nils, closed_nilm, closed_nilf, closed_nili, closed_agg, closed_tup, closed_vs, closed_vp, closed_iface, closed_fn, closeds_cI, closeds_cE, viewA_closed, viewR_closed, AV.scal, AV.scal0, fillA, repA, part_bool, part_int, part_str, part_nilp, part_ptr, part_nils, part_sl, part_nilm, part_mp, part_nilf, part_fn, part_nili, part_iface, part_agg, part_vs, part_vp, viewA_sl1, vaSl_cells, wrap_0, wrap_1, wrap_2, wrap_m1, set_last, get_last, er11_0, er11_1, er11_2, er11_3, er11_4, er11_5, er11_6, er11_7, er11_9, l1, hlt, i1, i2, g1, g2, hx, hr]
    · have hm : i = xs.length := by omega
      have hr : xs = ys := by rw [hm, List.take_length] at hp; rw [hl, List.take_length] at hp; exact hp
      simp [↓getD_z, ↓getD_s, -List.getD_eq_getElem?_getD, -Int.ofNat_toNat, -getElem?_pos, gz, ↓hid_k, ↓hid_o, ↓hid_q, ↓hid_v, ↓PO_nil, ↓PO_none, ↓PO_grd, ↓PD_nil, ↓PD_none, ↓PD_grd, ↓PDO_N, ↓PDO_X, ↓PDO_call, ↓PDO_calli, ↓PDO_callv, PDX_free, PDX_eq, ↓PStep_N, ↓PStep_X, ↓PStep_call, ↓PStep_calli, PStep_callv, ↓PC_skip, ↓PC_lab, ↓PC_ret, ↓PC_exit, ↓PC_reg, ↓PC_draw, ↓PC_seq, ↓PC_block, ↓PC_loop, ↓PC_scope, ↓PC_cond, ↓thenC_norm, ↓thenC_ret, ↓thenC_exit, ↓blockC_norm, ↓blockC_ret, ↓blockC_exit, ↓loopC_norm, ↓loopC_ret, ↓loopC_exit, ↓endR_ret, ↓endR_norm, resK_none, resK_t, resK_tt, KNO_val, KNO_new, KNO_ite, KNO_map, KXO_some, KXO_ite, KVA_t, KVA_f, KG_skip, KG_tt, KG_ff, KG_tf, KG_ft, KB_true, KB_false, KNOD_val, KNOD_new, KNOD_ite, n_mv, n_pick, n_bin, n_eqB, n_eqN, n_eqS, n_un, n_conv, n_fadd, n_faddV, n_fld1, n_fldN, n_idx, n_idxA, n_idxV, n_idxAV, n_ext, n_lenS, n_lenS0, n_lenV, n_lenT, n_lenA, n_min, n_max, n_build, n_mkfn, n_slc, n_slc0, n_slcV, n_slcA, n_load1, n_loadN, n_load1V, n_loadNV, n_alloc, n_box, n_bsl, n_mksl, n_nilcP, n_nilcV, n_nilcI, n_nilcF, x_store, x_clear0, x_clear, b_add, b_sub, b_mul, b_eql, b_neq, b_lss, b_leq, b_gtr, b_geq, b_and16, unV, ntouch, gather, hide, unhide, evalOpd, applyOuts, int_bne, int_beq, ite_bool, ite_int, one_bool, cells_bool, one_int, cells_int, one_str, cells_str, one_nilp, cells_nilp, one_ptr, cells_ptr, one_nils, cells_nils, one_sl, cells_sl, one_nilf, cells_nilf, one_fn, cells_fn, one_nili, cells_nili, one_mp, cells_mp, one_nilm, cells_nilm, one_iface, cells_iface, one_vs, cells_vs, one_vp, cells_vp, cells_agg, Nat.testBit, setAt_1, setAt_2, closeds_nil, closeds_cons, closed_bool, closed_int, closed_str, closed_nilp, closed_nils, closed_nilm, closed_nilf, closed_nili, closed_agg, closed_tup, closed_vs, closed_vp, closed_iface, closed_fn, closeds_cI, closeds_cE, viewA_closed, viewR_closed, AV.scal, AV.scal0, fillA, repA, part_bool, part_int, part_str, part_nilp, part_ptr, part_nils, part_sl, part_nilm, part_mp, part_nilf, part_fn, part_nili, part_iface, part_agg, part_vs, part_vp, viewA_sl1, vaSl_cells, wrap_0, wrap_1, wrap_2, wrap_m1, set_last, get_last, er11_0, er11_1, er11_2, er11_3, er11_4, er11_5, er11_6, er11_7, er11_9, l1, hlt, ← hr]
  · have hl' : ¬ (xs.length : Int) = ys.length := by omega
    have hr : ¬ xs = ys := fun h => hl (by rw [h])
    simp [↓getD_z, ↓getD_s, -List.getD_eq_getElem?_getD, -Int.ofNat_toNat, -getElem?_pos, gz, ↓hid_k, ↓hid_o, ↓hid_q, ↓hid_v, ↓PO_nil, ↓PO_none, ↓PO_grd, ↓PD_nil, ↓PD_none, ↓PD_grd, ↓PDO_N, ↓PDO_X, ↓PDO_call, ↓PDO_calli, ↓PDO_callv, PDX_free, PDX_eq, ↓PStep_N, ↓PStep_X, ↓PStep_call, ↓PStep_calli, PStep_callv, ↓PC_skip, ↓PC_lab, ↓PC_ret, ↓PC_exit, ↓PC_reg, ↓PC_draw, ↓PC_seq, ↓PC_block, ↓PC_loop, ↓PC_scope, ↓PC_cond, ↓thenC_norm, ↓thenC_ret, ↓thenC_exit, ↓blockC_norm, ↓blockC_ret, ↓blockC_exit, ↓loopC_norm, ↓loopC_ret, ↓loopC_exit, ↓endR_ret, ↓endR_norm, resK_none, resK_t, resK_tt, KNO_val, KNO_new, KNO_ite, KNO_map, KXO_some, KXO_ite, KVA_t, KVA_f, KG_skip, KG_tt, KG_ff, KG_tf, KG_ft, KB_true, KB_false, KNOD_val, KNOD_new, KNOD_ite, n_mv, n_pick, n_bin, n_eqB, n_eqN, n_eqS, n_un, n_conv, n_fadd, n_faddV, n_fld1, n_fldN, n_idx, n_idxA, n_idxV, n_idxAV, n_ext, n_lenS, n_lenS0, n_lenV, n_lenT, n_lenA, n_min, n_max, n_build, n_mkfn, n_slc, n_slc0, n_slcV, n_slcA, n_load1, n_loadN, n_load1V, n_loadNV, n_alloc, n_box, n_bsl, n_mksl, n_nilcP, n_nilcV, n_nilcI, n_nilcF, x_store, x_clear0, x_clear, b_add, b_sub, b_mul, b_eql, b_neq, b_lss, b_leq, b_gtr, b_geq, b_and16, unV, ntouch, gather, hide, unhide, evalOpd, applyOuts, int_bne, int_beq, ite_bool, ite_int, one_bool, cells_bool, one_int, cells_int, one_str, cells_str, one_nilp, cells_nilp, one_ptr, cells_ptr, one_nils, cells_nils, one_sl, cells_sl, one_nilf, cells_nilf, one_fn, cells_fn, one_nili, cells_nili, one_mp, cells_mp, one_nilm, cells_nilm, one_iface, cells_iface, one_vs, cells_vs, one_vp, cells_vp, cells_agg, Nat.testBit, setAt_1, setAt_2, closeds_nil, closeds_cons, closed_bool, closed_int, closed_str, closed_nilp, closed_nils, closed_nilm, closed_nilf, closed_nili, closed_agg, closed_tup, closed_vs, closed_vp, closed_iface, closed_fn, closeds_cI, closeds_cE, viewA_closed, viewR_closed, AV.scal, AV.scal0, fillA, repA, part_bool, part_int, part_str, part_nilp, part_ptr, part_nils, part_sl, part_nilm, part_mp, part_nilf, part_fn, part_nili, part_iface, part_agg, part_vs, part_vp, viewA_sl1, vaSl_cells, wrap_0, wrap_1, wrap_2, wrap_m1, set_last, get_last, er11_0, er11_1, er11_2, er11_3, er11_4, er11_5, er11_6, er11_7, er11_9, l1, l2, hl', hr]
theorem w_SameEdges (h : Has A (φ 23) (f23 φ)) (v u : AV) (xs ys : List Ed) (hv : IsE v xs) (hu : IsE u ys) (hn : xs.length < 1000000000000) : PVal A (φ 23) [v, u] (.bool (decide (xs = ys))) := by
  have l1 := hv.len; have l2 := hu.len
  refine pval_has h rfl ?_
  simp only [l23_8, b23, f23]
  by_cases hl : xs.length = ys.length
  · have hl' : (xs.length : Int) = ys.length := by omega
    simp [↓getD_z, ↓getD_s, -List.getD_eq_getElem?_getD, -Int.ofNat_toNat, -getElem?_pos, gz, ↓hid_k, ↓hid_o, ↓hid_q, ↓hid_v, ↓PO_nil, ↓PO_none, ↓PO_grd, ↓PD_nil, ↓PD_none, ↓PD_grd, ↓PDO_N, ↓PDO_X, ↓PDO_call, ↓PDO_calli, ↓PDO_callv, PDX_free, PDX_eq, ↓PStep_N, ↓PStep_X, ↓PStep_call, ↓PStep_calli, PStep_callv, ↓PC_skip, ↓PC_lab, ↓PC_ret, ↓PC_exit, ↓PC_reg, ↓PC_draw, ↓PC_seq, ↓PC_block, ↓PC_loop, ↓PC_scope, ↓PC_cond, ↓thenC_norm, ↓thenC_ret, ↓thenC_exit, ↓blockC_norm, ↓blockC_ret, ↓blockC_exit, ↓loopC_norm, ↓loopC_ret, ↓loopC_exit, ↓endR_ret, ↓endR_norm, resK_none, resK_t, resK_tt, KNO_val, KNO_new, KNO_ite, KNO_map, KXO_some, KXO_ite, KVA_t, KVA_f, KG_skip, KG_tt, KG_ff, KG_tf, KG_ft, KB_true, KB_false, KNOD_val, KNOD_new, KNOD_ite, n_mv, n_pick, n_bin, n_eqB, n_eqN, n_eqS, n_un, n_conv, n_fadd, n_faddV, n_fld1, n_fldN, n_idx, n_idxA, n_idxV, n_idxAV, n_ext, n_lenS, n_lenS0, n_lenV, n_lenT, n_lenA, n_min, n_max, n_build, n_mkfn, n_slc, n_slc0, n_slcV, n_slcA, n_load1, n_loadN, n_load1V, n_loadNV, n_alloc, n_box, n_bsl, n_mksl, n_nilcP, n_nilcV, n_nilcI, n_nilcF, x_store, x_clear0, x_clear, b_add, b_sub, b_mul, b_eql, b_neq, b_lss, b_leq, b_gtr, b_geq, b_and16, unV, ntouch, gather, hide, unhide, evalOpd, applyOuts, int_bne, int_beq, ite_bool, ite_int, one_bool, cells_bool, one_int, cells_int, one_str, cells_str, one_nilp, cells_nilp, one_ptr, cells_ptr, one_nils, cells_nils, one_sl, cells_sl, one_nilf, cells_nilf, one_fn, cells_fn, one_nili, cells_nili, one_mp, cells_mp, one_nilm, cells_nilm, one_iface, cells_iface, one_vs, cells_vs, one_vp, cells_vp, cells_agg, Nat.testBit, setAt_1, setAt_2, closeds_nil, closeds_cons, closed_bool, closed_int, closed_str, closed_nilp, closed_nils, closed_nilm, closed_nilf, closed_nili, closed_agg, closed_tup, closed_vs, closed_vp, closed_iface, closed_fn, closeds_cI, closeds_cE, viewA_closed, viewR_closed, AV.scal, AV.scal0, fillA, repA, part_bool, part_int, part_str, part_nilp, part_ptr, part_nils, part_sl, part_nilm, part_mp, part_nilf, part_fn, part_nili, part_iface, part_agg, part_vs, part_vp, viewA_sl1, vaSl_cells, wrap_0, wrap_1, wrap_2, wrap_m1, set_last, get_last, er23_0, er23_1, er23_2, er23_3, er23_4, er23_5, er23_6, er23_7, er23_9, l1, l2, hl]
    refine pc_loopI (fun m st => ∃ (i : Nat) (q r : AV), i + m = xs.length ∧ xs.take i = ys.take i ∧ st = ([v, u, .bool false, .int .i64 i, .bool false, q, r], [])) xs.length ⟨0, _, _, by simp, by simp, rfl⟩ ?_
    rintro m st ⟨i, q, r, hi, hp, rfl⟩
    by_cases hlt : i < xs.length
    · obtain ⟨i1, _, _, le1, t1⟩ := hv.at hlt
      obtain ⟨i2, _, _, le2, t2⟩ := hu.at (i := i) (by omega)
      have hw := wrap1 hlt (by omega)
      have hlt' : (i : Int) < xs.length := by omega
      by_cases hx : xs[i] = ys[i]
      · simp [↓getD_z, ↓getD_s, -List.getD_eq_getElem?_getD, -Int.ofNat_toNat, -getElem?_pos, gz, ↓hid_k, ↓hid_o, ↓hid_q, ↓hid_v, ↓PO_nil, ↓PO_none, ↓PO_grd, ↓PD_nil, ↓PD_none, ↓PD_grd, ↓PDO_N, ↓PDO_X, ↓PDO_call, ↓PDO_calli, ↓PDO_callv, PDX_free, PDX_eq, ↓PStep_N, ↓PStep_X, ↓PStep_call, ↓PStep_calli, PStep_callv, ↓PC_skip, ↓PC_lab, ↓PC_ret, ↓PC_exit, ↓PC_reg, ↓PC_draw, ↓PC_seq, ↓PC_block, ↓PC_loop, ↓PC_scope, ↓PC_cond, ↓thenC_norm, ↓thenC_ret, ↓thenC_exit, ↓blockC_norm, ↓blockC_ret, ↓blockC_exit, ↓loopC_norm, ↓loopC_ret, ↓loopC_exit, ↓endR_ret, ↓endR_norm, resK_none, resK_t, resK_tt, KNO_val, KNO_new, KNO_ite, KNO_map, KXO_some, KXO_ite, KVA_t, KVA_f, KG_skip, KG_tt, KG_ff, KG_tf, KG_ft, KB_true, KB_false, KNOD_val, KNOD_new, KNOD_ite, n_mv, n_pick, n_bin, n_eqB, n_eqN, n_eqS, n_un, n_conv, n_fadd, n_faddV, n_fld1, n_fldN, n_idx, n_idxA, n_idxV, n_idxAV, n_ext, n_lenS, n_lenS0, n_lenV, n_lenT, n_lenA, n_min, n_max, n_build, n_mkfn, n_slc, n_slc0, n_slcV, n_slcA, n_load1, n_loadN, n_load1V, n_loadNV, n_alloc, n_box, n_bsl, n_mksl, n_nilcP, n_nilcV, n_nilcI, n_nilcF, x_store, x_clear0, x_clear, b_add, b_sub, b_mul, b_eql, b_neq, b_lss, b_leq, b_gtr, b_geq, b_and16, unV, ntouch, gather, hide, unhide, evalOpd, applyOuts, int_bne, int_beq, ite_bool, ite_int, one_bool, cells_bool, one_int, cells_int, one_str, cells_str, one_nilp, cells_nilp, one_ptr, cells_ptr, one_nils, cells_nils, one_sl, cells_sl, one_nilf, cells_nilf, one_fn, cells_fn, one_nili, cells_nili, one_mp, cells_mp, one_nilm, cells_nilm, one_iface, cells_iface, one_vs, cells_vs, one_vp, cells_vp, cells_agg, Nat.testBit, setAt_1, setAt_2, closeds_nil, closeds_cons, closed_bool, closed_int, closed_str, closed_nilp, closed_nils, closed_nilm, closed_nilf, closed_nili, closed_agg, closed_tup, closed_vs, closed_vp, closed_iface, closed_fn, closeds_cI, closeds_cE, viewA_closed, viewR_closed, AV.scal, AV.scal0, fillA, repA, part_bool, part_int, part_str, part_nilp, part_ptr, part_nils, part_sl, part_nilm, part_mp, part_nilf, part_fn, part_nili, part_iface, part_agg, part_vs, part_vp, viewA_sl1, vaSl_cells, wrap_0, wrap_1, wrap_2, wrap_m1, set_last, get_last, er23_0, er23_1, er23_2, er23_3, er23_4, er23_5, er23_6, er23_7, er23_9, l1, hlt, i1, i2, le1, le2, t1, t2, eqS2, hx, hw]
        refine next_mk (m - 1) (by omega) ⟨i + 1, _, _, by omega, ?_, rfl⟩
        rw [List.take_succ_eq_append_getElem hlt, List.take_succ_eq_append_getElem (by omega : i < ys.length), hp, hx]
      · have hr : ¬ xs = ys := fun h => hx (by simp [h])
        simp [↓getD_z, ↓getD_s, -List.getD_eq_getElem?_getD, -Int.ofNat_toNat, -getElem?_pos, gz, ↓hid_k, ↓hid_o, ↓hid_q, ↓hid_v, ↓PO_nil, ↓PO_none, ↓PO_grd, ↓PD_nil, ↓PD_none, ↓PD_grd, ↓PDO_N, ↓PDO_X, ↓PDO_call, ↓PDO_calli, ↓PDO_callv, PDX_free, PDX_eq, ↓PStep_N, ↓PStep_X, ↓PStep_call, ↓PStep_calli, PStep_callv, ↓PC_skip, ↓PC_lab, ↓PC_ret, ↓PC_exit, ↓PC_reg, ↓PC_draw, ↓PC_seq, ↓PC_block, ↓PC_loop, ↓PC_scope, ↓PC_cond, ↓thenC_norm, ↓thenC_ret, ↓thenC_exit, ↓blockC_norm, ↓blockC_ret, ↓blockC_exit, ↓loopC_norm, ↓loopC_ret, ↓loopC_exit, ↓endR_ret, ↓endR_norm, resK_none, resK_t, resK_tt, KNO_val, KNO_new, KNO_ite, KNO_map, KXO_some, KXO_ite, KVA_t, KVA_f, KG_skip, KG_tt, KG_ff, KG_tf, KG_ft, KB_true, KB_false, KNOD_val, KNOD_new, KNOD_ite, n_mv, n_pick, n_bin, n_eqB, n_eqN, n_eqS, n_un, n_conv, n_fadd, n_faddV, n_fld1, n_fldN, n_idx, n_idxA, n_idxV, n_idxAV, n_ext, n_lenS, n_lenS0, n_lenV, n_lenT, n_lenA, n_min, n_max, n_build, n_mkfn, n_slc, n_slc0, n_slcV, n_slcA, n_load1, n_loadN, n_load1V, n_loadNV, n_alloc, n_box, n_bsl, n_mksl, n_nilcP, n_nilcV, n_nilcI, n_nilcF, x_store, x_clear0, x_clear, b_add, b_sub, b_mul, b_eql, b_neq, b_lss, b_leq, b_gtr, b_geq, b_and16, unV, ntouch, gather, hide, unhide, evalOpd, applyOuts, int_bne, int_beq, ite_bool, ite_int, one_bool, cells_bool, one_int, cells_int, one_str, cells_str, one_nilp, cells_nilp, one_ptr, cells_ptr, one_nils, cells_nils, one_sl, cells_sl, one_nilf, cells_nilf, one_fn, cells_fn, one_nili, cells_nili, one_mp, cells_mp, one_nilm, cells_nilm, one_iface, cells_iface, one_vs, cells_vs, one_vp, cells_vp, cells_agg, Nat.testBit, setAt_1, setAt_2, closeds_nil, closeds_cons, closed_bool, closed_int, closed_str, closed_nilp, closed_nils, closed_nilm, closed_nilf, closed_nili, closed_agg, closed_tup, closed_vs, closed_vp, closed_iface, closed_fn, closeds_cI, closeds_cE, viewA_closed, viewR_closed, AV.scal, AV.scal0, fillA, repA, part_bool, part_int, part_str, part_nilp, part_ptr, part_nils, part_sl, part_nilm, part_mp, part_nilf, part_fn, part_nili, part_iface, part_agg, part_vs, part_vp, viewA_sl1, vaSl_cells, wrap_0, wrap_1, wrap_2, wrap_m1, set_last, get_last, er23_0, er23_1, er23_2, er23_3, er23_4, er23_5, er23_6, er23_7, er23_9, l1, hlt, i1, i2, le1, le2, t1, t2, eqS2, hx, hr]
    · have hm : i = xs.length := by omega
      have hr : xs = ys := by rw [hm, List.take_length] at hp; rw [hl, List.take_length] at hp; exact hp
      simp [↓getD_z, ↓getD_s, -List.getD_eq_getElem?_getD, -Int.ofNat_toNat, -getElem?_pos, gz, ↓hid_k, ↓hid_o, ↓hid_q, ↓hid_v, ↓PO_nil, ↓PO_none, ↓PO_grd, ↓PD_nil, ↓PD_none, ↓PD_grd, ↓PDO_N, ↓PDO_X, ↓PDO_call, ↓PDO_calli, ↓PDO_callv, PDX_free, PDX_eq, ↓PStep_N, ↓PStep_X, ↓PStep_call, ↓PStep_calli, PStep_callv, ↓PC_skip, ↓PC_lab, ↓PC_ret, ↓PC_exit, ↓PC_reg, ↓PC_draw, ↓PC_seq, ↓PC_block, ↓PC_loop, ↓PC_scope, ↓PC_cond, ↓thenC_norm, ↓thenC_ret, ↓thenC_exit, ↓blockC_norm, ↓blockC_ret, ↓blockC_exit, ↓loopC_norm, ↓loopC_ret, ↓loopC_exit, ↓endR_ret, ↓endR_norm, resK_none, resK_t, resK_tt, KNO_val, KNO_new, KNO_ite, KNO_map, KXO_some, KXO_ite, KVA_t, KVA_f, KG_skip, KG_tt, KG_ff, KG_tf, KG_ft, KB_true, KB_false, KNOD_val, KNOD_new, KNOD_ite, n_mv, n_pick, n_bin, n_eqB, n_eqN, n_eqS, n_un, n_conv, n_fadd, n_faddV, n_fld1, n_fldN, n_idx, n_idxA, n_idxV, n_idxAV, n_ext, n_lenS, n_lenS0, n_lenV, n_lenT, n_lenA, n_min, n_max, n_build, n_mkfn, n_slc, n_slc0, n_slcV, n_slcA, n_load1, n_loadN, n_load1V, n_loadNV, n_alloc, n_box, n_bsl, n_mksl, n_nilcP, n_nilcV, n_nilcI, n_nilcF, x_store, x_clear0, x_clear, b_add, b_sub, b_mul, b_eql, b_neq, b_lss, b_leq, b_gtr, b_geq, b_and16, unV, ntouch, gather, hide, unhide, evalOpd, applyOuts, int_bne, int_beq, ite_bool, ite_int, one_bool, cells_bool, one_int, cells_int, one_str, cells_str, one_nilp, cells_nilp, one_ptr, cells_ptr, one_nils, cells_nils, one_sl, cells_sl, one_nilf, cells_nilf, one_fn, cells_fn, one_nili, cells_nili, one_mp, cells_mp, one_nilm, cells_nilm, one_iface, cells_iface, one_vs, cells_vs, one_vp, cells_vp, cells_agg, Nat.testBit, setAt_1, setAt_2, closeds_nil, closeds_cons, closed_bool, closed_int, closed_str, closed_nilp, closed_nils, closed_nilm, closed_nilf, closed_nili, closed_agg, closed_tup, closed_vs, closed_vp, closed_iface, closed_fn, closeds_cI, closeds_cE, viewA_closed, viewR_closed, AV.scal, AV.scal0, fillA, repA, part_bool, part_int, part_str, part_nilp, part_ptr, part_nils, part_sl, part_nilm, part_mp, part_nilf, part_fn, part_nili, part_iface, part_agg, part_vs, part_vp, viewA_sl1, vaSl_cells, wrap_0, wrap_1, wrap_2, wrap_m1, set_last, get_last, er23_0, er23_1, er23_2, er23_3, er23_4, er23_5, er23_6, er23_7, er23_9, l1, hlt, ← hr]
  · have hl' : ¬ (xs.length : Int) = ys.length := by omega
    have hr : ¬ xs = ys := fun h => hl (by rw [h])
    simp [↓getD_z, ↓getD_s, -List.getD_eq_getElem?_getD, -Int.ofNat_toNat, -getElem?_pos, gz, ↓hid_k, ↓hid_o, ↓hid_q, ↓hid_v, ↓PO_nil, ↓PO_none, ↓PO_grd, ↓PD_nil, ↓PD_none, ↓PD_grd, ↓PDO_N, ↓PDO_X, ↓PDO_call, ↓PDO_calli, ↓PDO_callv, PDX_free, PDX_eq, ↓PStep_N, ↓PStep_X, ↓PStep_call, ↓PStep_calli, PStep_callv, ↓PC_skip, ↓PC_lab, ↓PC_ret, ↓PC_exit, ↓PC_reg, ↓PC_draw, ↓PC_seq, ↓PC_block, ↓PC_loop, ↓PC_scope, ↓PC_cond, ↓thenC_norm, ↓thenC_ret, ↓thenC_exit, ↓blockC_norm, ↓blockC_ret, ↓blockC_exit, ↓loopC_norm, ↓loopC_ret, ↓loopC_exit, ↓endR_ret, ↓endR_norm, resK_none, resK_t, resK_tt, KNO_val, KNO_new, KNO_ite, KNO_map, KXO_some, KXO_ite, KVA_t, KVA_f, KG_skip, KG_tt, KG_ff, KG_tf, KG_ft, KB_true, KB_false, KNOD_val, KNOD_new, KNOD_ite, n_mv, n_pick, n_bin, n_eqB, n_eqN, n_eqS, n_un, n_conv, n_fadd, n_faddV, n_fld1, n_fldN, n_idx, n_idxA, n_idxV, n_idxAV, n_ext, n_lenS, n_lenS0, n_lenV, n_lenT, n_lenA, n_min, n_max, n_build, n_mkfn, n_slc, n_slc0, n_slcV, n_slcA, n_load1, n_loadN, n_load1V, n_loadNV, n_alloc, n_box, n_bsl, n_mksl, n_nilcP, n_nilcV, n_nilcI, n_nilcF, x_store, x_clear0, x_clear, b_add, b_sub, b_mul, b_eql, b_neq, b_lss, b_leq, b_gtr, b_geq, b_and16, unV, ntouch, gather, hide, unhide, evalOpd, applyOuts, int_bne, int_beq, ite_bool, ite_int, one_bool, cells_bool, one_int, cells_int, one_str, cells_str, one_nilp, cells_nilp, one_ptr, cells_ptr, one_nils, cells_nils, one_sl, cells_sl, one_nilf, cells_nilf, one_fn, cells_fn, one_nili, cells_nili, one_mp, cells_mp, one_nilm, cells_nilm, one_iface, cells_iface, one_vs, cells_vs, one_vp, cells_vp, cells_agg, Nat.testBit, setAt_1, setAt_2, closeds_nil, closeds_cons, closed_bool, closed_int, closed_str, closed_nilp, closed_nils, closed_nilm, closed_nilf, closed_nili, closed_agg, closed_tup, closed_vs, closed_vp, closed_iface, closed_fn, closeds_cI, closeds_cE, viewA_closed, viewR_closed, AV.scal, AV.scal0, fillA, repA, part_bool, part_int, part_str, part_nilp, part_ptr, part_nils, part_sl, part_nilm, part_mp, part_nilf, part_fn, part_nili, part_iface, part_agg, part_vs, part_vp, viewA_sl1, vaSl_cells, wrap_0, wrap_1, wrap_2, wrap_m1, set_last, get_last, er23_0, er23_1, er23_2, er23_3, er23_4, er23_5, er23_6, er23_7, er23_9, l1, l2, hl', hr]
theorem w_SameGraph (h : Has A (φ 3) (f3 φ)) (h2 : Has A (φ 23) (f23 φ)) (n m : Int) (v u : AV) (xs ys : List Ed) (hv : IsE v xs) (hu : IsE u ys) (hn : xs.length < 1000000000000) : PVal A (φ 3) [gV n v, gV m u] (.bool (decide (n = m ∧ xs = ys))) := by
  refine pval_has h rfl ?_
  simp only [b3, f3]
  by_cases h : n = m
  · simp [↓getD_z, ↓getD_s, -List.getD_eq_getElem?_getD, -Int.ofNat_toNat, -getElem?_pos, gz, ↓hid_k, ↓hid_o, ↓hid_q, ↓hid_v, ↓PO_nil, ↓PO_none, ↓PO_grd, ↓PD_nil, ↓PD_none, ↓PD_grd, ↓PDO_N, ↓PDO_X, ↓PDO_call, ↓PDO_calli, ↓PDO_callv, PDX_free, PDX_eq, ↓PStep_N, ↓PStep_X, ↓PStep_call, ↓PStep_calli, PStep_callv, ↓PC_skip, ↓PC_lab, ↓PC_ret, ↓PC_exit, ↓PC_reg, ↓PC_draw, ↓PC_seq, ↓PC_block, ↓PC_loop, ↓PC_scope, ↓PC_cond, ↓thenC_norm, ↓thenC_ret, ↓thenC_exit, ↓blockC_norm, ↓blockC_ret, ↓blockC_exit, ↓loopC_norm, ↓loopC_ret, ↓loopC_exit, ↓endR_ret, ↓endR_norm, resK_none, resK_t, resK_tt, KNO_val, KNO_new, KNO_ite, KNO_map, KXO_some, KXO_ite, KVA_t, KVA_f, KG_skip, KG_tt, KG_ff, KG_tf, KG_ft, KB_true, KB_false, KNOD_val, KNOD_new, KNOD_ite, n_mv, n_pick, n_bin, n_eqB, n_eqN, n_eqS, n_un, n_conv, n_fadd, n_faddV, n_fld1, n_fldN, n_idx, n_idxA, n_idxV, n_idxAV, n_ext, n_lenS, n_lenS0, n_lenV, n_lenT, n_lenA, n_min, n_max, n_build, n_mkfn, n_slc, n_slc0, n_slcV, n_slcA, n_load1, n_loadN, n_load1V, n_loadNV, n_alloc, n_box, n_bsl, n_mksl, n_nilcP, n_nilcV, n_nilcI, n_nilcF, x_store, x_clear0, x_clear, b_add, b_sub, b_mul, b_eql, b_neq, b_lss, b_leq, b_gtr, b_geq, b_and16, unV, ntouch, gather, hide, unhide, evalOpd, applyOuts, int_bne, int_beq, ite_bool, ite_int, one_bool, cells_bool, one_int, cells_int, one_str, cells_str, one_nilp, cells_nilp, one_ptr, cells_ptr, one_nils, cells_nils, one_sl, cells_sl, one_nilf, cells_nilf, one_fn, cells_fn, one_nili, cells_nili, one_mp, cells_mp, one_nilm, cells_nilm, one_iface, cells_iface, one_vs, cells_vs, one_vp, cells_vp, cells_agg, Nat.testBit, setAt_1, setAt_2, closeds_nil, closeds_cons, closed_bool, closed_int, closed_str, closed_nilp, closed_nils, closed_nilm, closed_nilf, closed_nili, closed_agg, closed_tup, closed_vs, closed_vp, closed_iface, closed_fn, closeds_cI, closeds_cE, viewA_closed, viewR_closed, AV.scal, AV.scal0, fillA, repA, part_bool, part_int, part_str, part_nilp, part_ptr, part_nils, part_sl, part_nilm, part_mp, part_nilf, part_fn, part_nili, part_iface, part_agg, part_vs, part_vp, viewA_sl1, vaSl_cells, wrap_0, wrap_1, wrap_2, wrap_m1, set_last, get_last, er3_0, er3_1, hv.one, hu.one, h, hv.closed, hu.closed, (w_SameEdges h2 v u xs ys hv hu hn).eq]
  · simp [↓getD_z, ↓getD_s, -List.getD_eq_getElem?_getD, -Int.ofNat_toNat, -getElem?_pos, gz, ↓hid_k, ↓hid_o, ↓hid_q, ↓hid_v, ↓PO_nil, ↓PO_none, ↓PO_grd, ↓PD_nil, ↓PD_none, ↓PD_grd, ↓PDO_N, ↓PDO_X, ↓PDO_call, ↓PDO_calli, ↓PDO_callv, PDX_free, PDX_eq, ↓PStep_N, ↓PStep_X, ↓PStep_call, ↓PStep_calli, PStep_callv, ↓PC_skip, ↓PC_lab, ↓PC_ret, ↓PC_exit, ↓PC_reg, ↓PC_draw, ↓PC_seq, ↓PC_block, ↓PC_loop, ↓PC_scope, ↓PC_cond, ↓thenC_norm, ↓thenC_ret, ↓thenC_exit, ↓blockC_norm, ↓blockC_ret, ↓blockC_exit, ↓loopC_norm, ↓loopC_ret, ↓loopC_exit, ↓endR_ret, ↓endR_norm, resK_none, resK_t, resK_tt, KNO_val, KNO_new, KNO_ite, KNO_map, KXO_some, KXO_ite, KVA_t, KVA_f, KG_skip, KG_tt, KG_ff, KG_tf, KG_ft, KB_true, KB_false, KNOD_val, KNOD_new, KNOD_ite, n_mv, n_pick, n_bin, n_eqB, n_eqN, n_eqS, n_un, n_conv, n_fadd, n_faddV, n_fld1, n_fldN, n_idx, n_idxA, n_idxV, n_idxAV, n_ext, n_lenS, n_lenS0, n_lenV, n_lenT, n_lenA, n_min, n_max, n_build, n_mkfn, n_slc, n_slc0, n_slcV, n_slcA, n_load1, n_loadN, n_load1V, n_loadNV, n_alloc, n_box, n_bsl, n_mksl, n_nilcP, n_nilcV, n_nilcI, n_nilcF, x_store, x_clear0, x_clear, b_add, b_sub, b_mul, b_eql, b_neq, b_lss, b_leq, b_gtr, b_geq, b_and16, unV, ntouch, gather, hide, unhide, evalOpd, applyOuts, int_bne, int_beq, ite_bool, ite_int, one_bool, cells_bool, one_int, cells_int, one_str, cells_str, one_nilp, cells_nilp, one_ptr, cells_ptr, one_nils, cells_nils, one_sl, cells_sl, one_nilf, cells_nilf, one_fn, cells_fn, one_nili, cells_nili, one_mp, cells_mp, one_nilm, cells_nilm, one_iface, cells_iface, one_vs, cells_vs, one_vp, cells_vp, cells_agg, Nat.testBit, setAt_1, setAt_2, closeds_nil, closeds_cons, closed_bool, closed_int, closed_str, closed_nilp, closed_nils, closed_nilm, closed_nilf, closed_nili, closed_agg, closed_tup, closed_vs, closed_vp, closed_iface, closed_fn, closeds_cI, closeds_cE, viewA_closed, viewR_closed, AV.scal, AV.scal0, fillA, repA, part_bool, part_int, part_str, part_nilp, part_ptr, part_nils, part_sl, part_nilm, part_mp, part_nilf, part_fn, part_nili, part_iface, part_agg, part_vs, part_vp, viewA_sl1, vaSl_cells, wrap_0, wrap_1, wrap_2, wrap_m1, set_last, get_last, er3_0, er3_1, hv.one, hu.one, h]
theorem w_In (h : Has A (φ 25) (f25 φ)) (v : AV) (xs : List Int) (x : Int) (hv : IsI v xs) (hn : xs.length < 1000000000000) : PVal A (φ 25) [v, .int .i64 x] (.bool (decide (x ∈ xs))) := by
  have l1 := hv.len
  refine pval_has h rfl ?_
  simp only [l25_6, b25, f25]
  simp [↓getD_z, ↓getD_s, -List.getD_eq_getElem?_getD, -Int.ofNat_toNat, -getElem?_pos, gz, ↓hid_k, ↓hid_o, ↓hid_q, ↓hid_v, ↓PO_nil, ↓PO_none, ↓PO_grd, ↓PD_nil, ↓PD_none, ↓PD_grd, ↓PDO_N, ↓PDO_X, ↓PDO_call, ↓PDO_calli, ↓PDO_callv, PDX_free, PDX_eq, ↓PStep_N, ↓PStep_X, ↓PStep_call, ↓PStep_calli, PStep_callv, ↓PC_skip, ↓PC_lab, ↓PC_ret, ↓PC_exit, ↓PC_reg, ↓PC_draw, ↓PC_seq, ↓PC_block, ↓PC_loop, ↓PC_scope, ↓PC_cond, ↓thenC_norm, ↓thenC_ret, ↓thenC_exit, ↓blockC_norm, ↓blockC_ret, ↓blockC_exit, ↓loopC_norm, ↓loopC_ret, ↓loopC_exit, ↓endR_ret, ↓endR_norm, resK_none, resK_t, resK_tt, KNO_val, KNO_new, KNO_ite, KNO_map, KXO_some, KXO_ite, KVA_t, KVA_f, KG_skip, KG_tt, KG_ff, KG_tf, KG_ft, KB_true, KB_false, KNOD_val, KNOD_new, KNOD_ite, n_mv, n_pick, n_bin, n_eqB, n_eqN, n_eqS, n_un, n_conv, n_fadd, n_faddV, n_fld1, n_fldN, n_idx, n_idxA, n_idxV, n_idxAV, n_ext, n_lenS, n_lenS0, n_lenV, n_lenT, n_lenA, n_min, n_max, n_build, n_mkfn, n_slc, n_slc0, n_slcV, n_slcA, n_load1, n_loadN, n_load1V, n_loadNV, n_alloc, n_box, n_bsl, n_mksl, n_nilcP, n_nilcV, n_nilcI, n_nilcF, x_store, x_clear0, x_clear, b_add, b_sub, b_mul, b_eql, b_neq, b_lss, b_leq, b_gtr, b_geq, b_and16, unV, ntouch, gather, hide, unhide, evalOpd, applyOuts, int_bne, int_beq, ite_bool, ite_int, one_bool, cells_bool, one_int, cells_int, one_str, cells_str, one_nilp, cells_nilp, one_ptr, cells_ptr, one_nils, cells_nils, one_sl, cells_sl, one_nilf, cells_nilf, one_fn, cells_fn, one_nili, cells_nili, one_mp, cells_mp, one_nilm, cells_nilm, one_iface, cells_iface, one_vs, cells_vs, one_vp, cells_vp, cells_agg, Nat.testBit, setAt_1, setAt_2, closeds_nil, closeds_cons, closed_bool, closed_int, closed_str, closed_nilp, closed_nils, closed_nilm, closed_nilf, closed_nili, closed_agg, closed_tup, closed_vs, closed_vp, closed_iface, closed_fn, closeds_cI, closeds_cE, viewA_closed, viewR_closed, AV.scal, AV.scal0, fillA, repA, part_bool, part_int, part_str, part_nilp, part_ptr, part_nils, part_sl, part_nilm, part_mp, part_nilf, part_fn, part_nili, part_iface, part_agg, part_vs, part_vp, viewA_sl1, vaSl_cells, wrap_0, wrap_1, wrap_2, wrap_m1, set_last, get_last, er25_0, er25_1, er25_2, er25_3, er25_4, er25_5, er25_7]
  refine pc_loopI (fun m st => ∃ (i : Nat) (q r : AV), i + m = xs.length ∧ (∀ j (h : j < xs.length), j < i → ¬ xs[j] = x) ∧ st = ([v, .int .i64 x, .bool false, .int .i64 i, q, r], [])) xs.length ⟨0, _, _, by simp, by simp, rfl⟩ ?_
  rintro m st ⟨i, q, r, hi, hp, rfl⟩
  by_cases hlt : i < xs.length
  · obtain ⟨i1, g1⟩ := hv.at hlt
    have hw := wrap1 hlt (by omega)
    by_cases hx : xs[i] = x
    · have hr : x ∈ xs := by rw [← hx]; exact List.getElem_mem hlt
      simp [↓getD_z, ↓getD_s, -List.getD_eq_getElem?_getD, -Int.ofNat_toNat, -getElem?_pos, gz, ↓hid_k, ↓hid_o, ↓hid_q, ↓hid_v, ↓PO_nil, ↓PO_none, ↓PO_grd, ↓PD_nil, ↓PD_none, ↓PD_grd, ↓PDO_N, ↓PDO_X, ↓PDO_call, ↓PDO_calli, ↓PDO_callv, PDX_free, PDX_eq, ↓PStep_N, ↓PStep_X, ↓PStep_call, ↓PStep_calli, PStep_callv, ↓PC_skip, ↓PC_lab, ↓PC_ret, ↓PC_exit, ↓PC_reg, ↓PC_draw, ↓PC_seq, ↓PC_block, ↓PC_loop, ↓PC_scope, ↓PC_cond, ↓thenC_norm, ↓thenC_ret, ↓thenC_exit, ↓blockC_norm, ↓blockC_ret, ↓blockC_exit, ↓loopC_norm, ↓loopC_ret, ↓loopC_exit, ↓endR_ret, ↓endR_norm, resK_none, resK_t, resK_tt, KNO_val, KNO_new, KNO_ite, KNO_map, KXO_some, KXO_ite, KVA_t, KVA_f, KG_skip, KG_tt, KG_ff, KG_tf, KG_ft, KB_true, KB_false, KNOD_val, KNOD_new, KNOD_ite, n_mv, n_pick, n_bin, n_eqB, n_eqN, n_eqS, n_un, n_conv, n_fadd, n_faddV, n_fld1, n_fldN, n_idx, n_idxA, n_idxV, n_idxAV, n_ext, n_lenS, n_lenS0, n_lenV, n_lenT, n_lenA, n_min, n_max, n_build, n_mkfn, n_slc, n_slc0, n_slcV, n_slcA, n_load1, n_loadN, n_load1V, n_loadNV, n_alloc, n_box, n_bsl, n_mksl, n_nilcP, n_nilcV, n_nilcI, n_nilcF, x_store, x_clear0, x_clear, b_add, b_sub, b_mul, b_eql, b_neq, b_lss, b_leq, b_gtr, b_geq, b_and16, unV, ntouch, gather, hide, unhide, evalOpd, applyOuts, int_bne, int_beq, ite_bool, ite_int, one_bool, cells_bool, one_int, cells_int, one_str, cells_str, one_nilp, cells_nilp, one_ptr, cells_ptr, one_nils, cells_nils, one_sl, cells_sl, one_nilf, cells_nilf, one_fn, cells_fn, one_nili, cells_nili, one_mp, cells_mp, one_nilm, cells_nilm, one_iface, cells_iface, one_vs, cells_vs, one_vp, cells_vp, cells_agg, Nat.testBit, setAt_1, setAt_2, closeds_nil, closeds_cons, closed_bool, closed_int, closed_str, closed_nilp, closed_nils, closed_nilm, closed_nilf, closed_nili, closed_agg, closed_tup, closed_vs, closed_vp, closed_iface, closed_fn, closeds_cI, closeds_cE, viewA_closed, viewR_closed, AV.scal, AV.scal0, fillA, repA, part_bool, part_int, part_str, part_nilp, part_ptr, part_nils, part_sl, part_nilm, part_mp, part_nilf, part_fn, part_nili, part_iface, part_agg, part_vs, part_vp, viewA_sl1, vaSl_cells, wrap_0, wrap_1, wrap_2, wrap_m1, set_last, get_last, er25_0, er25_1, er25_2, er25_3, er25_4, er25_5, er25_7, l1, hlt, i1, g1, hx, hr]
    · simp [↓getD_z, ↓getD_s, -List.getD_eq_getElem?_getD, -Int.ofNat_toNat, -getElem?_pos, gz, ↓hid_k, ↓hid_o, ↓hid_q, ↓hid_v, ↓PO_nil, ↓PO_none, ↓PO_grd, ↓PD_nil, ↓PD_none, ↓PD_grd, ↓PDO_N, ↓PDO_X, ↓PDO_call, ↓PDO_calli, ↓PDO_callv, PDX_free, PDX_eq, ↓PStep_N, ↓PStep_X, ↓PStep_call, ↓PStep_calli, PStep_callv, ↓PC_skip, ↓PC_lab, ↓PC_ret, ↓PC_exit, ↓PC_reg, ↓PC_draw, ↓PC_seq, ↓PC_block, ↓PC_loop, ↓PC_scope, ↓PC_cond, ↓thenC_norm, ↓thenC_ret, ↓thenC_exit, ↓blockC_norm, ↓blockC_ret, ↓blockC_exit, ↓loopC_norm, ↓loopC_ret, ↓loopC_exit, ↓endR_ret, ↓endR_norm, resK_none, resK_t, resK_tt, KNO_val, KNO_new, KNO_ite, KNO_map, KXO_some, KXO_ite, KVA_t, KVA_f, KG_skip, KG_tt, KG_ff, KG_tf, KG_ft, KB_true, KB_false, KNOD_val, KNOD_new, KNOD_ite, n_mv, n_pick, n_bin, n_eqB, n_eqN, n_eqS, n_un, n_conv, n_fadd, n_faddV, n_fld1, n_fldN, n_idx, n_idxA, n_idxV, n_idxAV, n_ext, n_lenS, n_lenS0, n_lenV, n_lenT, n_lenA, n_min, n_max, n_build, n_mkfn, n_slc, n_slc0, n_slcV, n_slcA, n_load1, n_loadN, n_load1V, n_loadNV, n_alloc, n_box, n_bsl, n_mksl, n_nilcP, n_nilcV, n_nilcI, n_nilcF, x_store, x_clear0, x_clear, b_add, b_sub, b_mul, b_eql, b_neq, b_lss, b_leq, b_gtr, b_geq, b_and16, unV, ntouch, gather, hide, unhide, evalOpd, applyOuts, int_bne, int_beq, ite_bool, ite_int, one_bool, cells_bool, one_int, cells_int, one_str, cells_str, one_nilp, cells_nilp, one_ptr, cells_ptr, one_nils, cells_nils, one_sl, cells_sl, one_nilf, cells_nilf, one_fn, cells_fn, one_nili, cells_nili, one_mp, cells_mp, one_nilm, cells_nilm, one_iface, cells_iface, one_vs, cells_vs, one_vp, cells_vp, cells_agg, Nat.testBit, setAt_1, setAt_2, closeds_nil, closeds_cons, closed_bool, closed_int, closed_str, closed_nilp, closed_nils, closed_nilm, closed_nilf, closed_nili, closed_agg, closed_tup, closed_vs, closed_vp, closed_iface, closed_fn, closeds_cI, closeds_cE, viewA_closed, viewR_closed, AV.scal, AV.scal0, fillA, repA, part_bool, part_int, part_str, part_nilp, part_ptr, part_nils, part_sl, part_nilm, part_mp, part_nilf, part_fn, part_nili, part_iface, part_agg, part_vs, part_vp, viewA_sl1, vaSl_cells, wrap_0, wrap_1, wrap_2, wrap_m1, set_last, get_last, er25_0, er25_1, er25_2, er25_3, er25_4, er25_5, er25_7, l1, hlt, i1, g1, hx, hw]
      refine next_mk (m - 1) (by omega) ⟨i + 1, _, _, by omega, fun j h hj => ?_, rfl⟩
      by_cases e : j = i
      · subst e; exact hx
      · exact hp j h (by omega)
  · have hr : ¬ x ∈ xs := by
      intro hm
      obtain ⟨j, hj, e⟩ := List.getElem_of_mem hm
      exact hp j hj (by omega) e
    simp [↓getD_z, ↓getD_s, -List.getD_eq_getElem?_getD, -Int.ofNat_toNat, -getElem?_pos, gz, ↓hid_k, ↓hid_o, ↓hid_q, ↓hid_v, ↓PO_nil, ↓PO_none, ↓PO_grd, ↓PD_nil, ↓PD_none, ↓PD_grd, ↓PDO_N, ↓PDO_X, ↓PDO_call, ↓PDO_calli, ↓PDO_callv, PDX_free, PDX_eq, ↓PStep_N, ↓PStep_X, ↓PStep_call, ↓PStep_calli, PStep_callv, ↓PC_skip, ↓PC_lab, ↓PC_ret, ↓PC_exit, ↓PC_reg, ↓PC_draw, ↓PC_seq, ↓PC_block, ↓PC_loop, ↓PC_scope, ↓PC_cond, ↓thenC_norm, ↓thenC_ret, ↓thenC_exit, ↓blockC_norm, ↓blockC_ret, ↓blockC_exit, ↓loopC_norm, ↓loopC_ret, ↓loopC_exit, ↓endR_ret, ↓endR_norm, resK_none, resK_t, resK_tt, KNO_val, KNO_new, KNO_ite, KNO_map, KXO_some, KXO_ite, KVA_t, KVA_f, KG_skip, KG_tt, KG_ff, KG_tf, KG_ft, KB_true, KB_false, KNOD_val, KNOD_new, KNOD_ite, n_mv, n_pick, n_bin, n_eqB, n_eqN, n_eqS, n_un, n_conv, n_fadd, n_faddV, n_fld1, n_fldN, n_idx, n_idxA, n_idxV, n_idxAV, n_ext, n_lenS, n_lenS0, n_lenV, n_lenT, n_lenA, n_min, n_max, n_build, n_mkfn, n_slc, n_slc0, n_slcV, n_slcA, n_load1, n_loadN, n_load1V, n_loadNV, n_alloc, n_box, n_bsl, n_mksl, n_nilcP, n_nilcV, n_nilcI, n_nilcF, x_store, x_clear0, x_clear, b_add, b_sub, b_mul, b_eql, b_neq, b_lss, b_leq, b_gtr, b_geq, b_and16, unV, ntouch, gather, hide, unhide, evalOpd, applyOuts, int_bne, int_beq, ite_bool, ite_int, one_bool, cells_bool, one_int, cells_int, one_str, cells_str, one_nilp, cells_nilp, one_ptr, cells_ptr, one_nils, cells_nils, one_sl, cells_sl, one_nilf, cells_nilf, one_fn, cells_fn, one_nili, cells_nili, one_mp, cells_mp, one_nilm, cells_nilm, one_iface, cells_iface, one_vs, cells_vs, one_vp, cells_vp, cells_agg, Nat.testBit, setAt_1, setAt_2, closeds_nil, closeds_cons, closed_bool, closed_int, closed_str, closed_nilp, closed_nils, closed_nilm, closed_nilf, closed_nili, closed_agg, closed_tup, closed_vs, closed_vp, closed_iface, closed_fn, closeds_cI, closeds_cE, viewA_closed, viewR_closed, AV.scal, AV.scal0, fillA, repA, part_bool, part_int, part_str, part_nilp, part_ptr, part_nils, part_sl, part_nilm, part_mp, part_nilf, part_fn, part_nili, part_iface, part_agg, part_vs, part_vp, viewA_sl1, vaSl_cells, wrap_0, wrap_1, wrap_2, wrap_m1, set_last, get_last, er25_0, er25_1, er25_2, er25_3, er25_4, er25_5, er25_7, l1, hlt, hr]
/-! ### Sorted -/
def sortI (xs : List Int) : List Int := xs.mergeSort fun a b => decide (a ≤ b)
theorem sortI_perm (xs : List Int) : (sortI xs).Perm xs := List.mergeSort_perm _ _
theorem sortI_sorted (xs : List Int) : (sortI xs).Pairwise (· ≤ ·) := by
  have := List.pairwise_mergeSort (le := fun a b : Int => decide (a ≤ b)) (fun a b c h1 h2 => by simp at *; omega) (fun a b => by simp; omega) xs
  exact this.imp (fun h => by simpa using h)
theorem sortI_len (xs : List Int) : (sortI xs).length = xs.length := (sortI_perm xs).length_eq
theorem sortI_unique : ∀ {l m : List Int}, l.Pairwise (· ≤ ·) → m.Pairwise (· ≤ ·) → l.Perm m → l = m
  | [], m, _, _, hp => hp.nil_eq
  | x :: l, [], _, _, hp => by have := hp.length_eq; simp at this
  | x :: l, y :: m, hl, hm, hp => by
    have e : x = y := by
      have h1 : x ∈ y :: m := hp.mem_iff.1 (List.mem_cons_self ..)
      have h2 : y ∈ x :: l := hp.mem_iff.2 (List.mem_cons_self ..)
      rcases List.mem_cons.1 h1 with h1 | h1
      · exact h1
      · rcases List.mem_cons.1 h2 with h2 | h2
        · exact h2.symm
        · have a := List.rel_of_pairwise_cons hl h2
          have b := List.rel_of_pairwise_cons hm h1
          omega
    subst e
    rw [sortI_unique (List.Pairwise.of_cons hl) (List.Pairwise.of_cons hm) (List.Perm.cons_inv hp)]
theorem sortI_of {l m : List Int} (h : m.Pairwise (· ≤ ·)) (hp : m.Perm l) : sortI l = m := sortI_unique (sortI_sorted l) h ((sortI_perm l).trans hp.symm)
theorem sortI_nil : sortI [] = [] := by simp [sortI]
/-- One more number, set in at its place. -/
theorem sortI_ins {l : List Int} {x : Int} {p : Nat} (hp : p ≤ (sortI l).length) (h1 : ∀ j (h : j < (sortI l).length), p ≤ j → x < (sortI l)[j]) (h2 : p = 0 ∨ ∀ h : p - 1 < (sortI l).length, (sortI l)[p - 1] ≤ x) :
    sortI (l ++ [x]) = (sortI l).take p ++ x :: (sortI l).drop p := by
  have hs := sortI_sorted l
  have hm := sortI_perm l
  generalize sortI l = o at *
  refine sortI_of ?_ ?_
  · rw [List.pairwise_append]
    refine ⟨hs.sublist (List.take_sublist _ _), ?_, ?_⟩
    · refine List.Pairwise.cons (fun y hy => ?_) (hs.sublist (List.drop_sublist _ _))
      obtain ⟨j, hj, rfl⟩ := List.getElem_of_mem hy
      rw [List.getElem_drop]
      have := h1 (p + j) (by simp at hj; omega) (by omega)
      omega
    · intro a ha b hb
      obtain ⟨j, hj, rfl⟩ := List.getElem_of_mem ha
      simp at hj
      rw [List.getElem_take]
      have hle : o[j] ≤ x := by
        rcases h2 with h | h
        · omega
        · have h3 := h (by omega)
          by_cases e : j = p - 1
          · subst e; exact h3
          · have := List.pairwise_iff_getElem.1 hs j (p - 1) (by omega) (by omega) (by omega)
            omega
      rcases List.mem_cons.1 hb with rfl | hb
      · exact hle
      · obtain ⟨k, hk, rfl⟩ := List.getElem_of_mem hb
        rw [List.getElem_drop]
        have := h1 (p + k) (by simp at hk; omega) (by omega)
        omega
  · have : (o.take p ++ x :: o.drop p).Perm (x :: (o.take p ++ o.drop p)) := List.perm_middle
    rw [List.take_append_drop] at this
    exact this.trans ((hm.cons x).trans (List.perm_append_singleton x l).symm)
theorem ins_cells (o : List Int) (x : Int) (p : Nat) (hp : p ≤ o.length) :
    setAt (setAt (cI o ++ [AV.int .i64 0]) (p + 1) (((cI o ++ [AV.int .i64 0]).drop p).take (o.length - p))) p [AV.int .i64 x] = cI (o.take p ++ x :: o.drop p) := by
  have hl : (cI o ++ [AV.int .i64 0]).length = o.length + 1 := by simp [cI]
  have hl3 : (cI o).length = o.length := cI_len o
  have hl2 : (((cI o ++ [AV.int .i64 0]).drop p).take (o.length - p)).length = o.length - p := by simp [cI]; omega
  apply List.ext_getElem?
  intro i
  rw [setAt_get (by rw [setAt_len (by omega)]; simp; omega), setAt_get (by omega), hl2]
  simp only [cI, List.map_append, List.map_cons, List.map_take, List.map_drop, List.length_singleton]
  have hml : ∀ k, (List.take k (o.map (AV.int .i64 ·))).length = min k o.length := by simp
  have e0 : min p o.length = p := Nat.min_eq_left hp
  have hm2 : (o.map (AV.int .i64 ·)).length = o.length := by simp
  by_cases h1 : i = p
  · subst h1
    rw [if_pos (by omega)]
    rw [List.getElem?_append_right (by rw [hml]; omega), hml, e0]
    simp
  · rw [if_neg (by omega)]
    by_cases h2 : i < p
    · rw [if_neg (by omega), List.getElem?_append_left (by rw [hm2]; omega), List.getElem?_append_left (by rw [hml]; omega), List.getElem?_take, if_pos h2]
    · rw [List.getElem?_append_right (l₁ := List.take p _) (by rw [hml]; omega), hml, e0]
      have e : i - p = (i - p - 1) + 1 := by omega
      rw [e, List.getElem?_cons_succ, List.getElem?_drop]
      by_cases h3 : i < o.length + 1
      · rw [if_pos (by omega), List.getElem?_take, if_pos (by omega), List.getElem?_drop, List.getElem?_append_left (by rw [hm2]; omega)]
        congr 1
      · rw [if_neg (by omega), List.getElem?_eq_none (by simp; omega), List.getElem?_eq_none (by rw [hm2]; omega)]
theorem x_copy_own {H : Heap} {b g p n : Nat} {ex ex2 : Bool} {cl1 cl2 : Nat} {c : List AV} (hb : H[b]? = some (.cells g false c)) (hl : c.length = n + 1) (hp : p ≤ n) (hone : c.all (·.one) = true) :
    ∃ r, xstep (.copy 1) [.sl b g (p + 1) (n - p) 1 cl1 ex, .sl b g p (n + 1 - p) 1 cl2 ex2] H = some (r, H.set b (.cells g false (setAt c (p + 1) ((c.drop p).take (n - p))))) := by
  have e1 : ¬ n + 1 - p = 0 := by omega
  have hset : H.set b (.cells g false c) = H := by
    obtain ⟨h1, h2⟩ := List.getElem?_eq_some_iff.1 hb
    rw [← h2]; exact List.set_getElem_self h1
  have e3 : p + (n + 1 - p) ≤ n + 1 := by omega
  have e4 : min (n + 1 - p) (n - p) = n - p := by omega
  by_cases h0 : n - p = 0
  · refine ⟨.int .i64 0, ?_⟩
    simp [xstep, srcCells, e1, rdSl, hb, hl, e3, e4, h0, setAt, hset]
  · refine ⟨.int .i64 ((n - p : Nat) : Int), ?_⟩
    have e6 : ∀ x, x ∈ (c.drop p).take (n + 1 - p) → x.one = true := fun x hx => List.all_eq_true.1 hone x (List.mem_of_mem_drop (List.mem_of_mem_take hx))
    have e7 : min (n - p) (n + 1 - p) = n - p := by omega
    simp [xstep, srcCells, e1, rdSl, hb, hl, e3, e4, h0, List.take_take, e7]
    exact ⟨by omega, e6⟩
set_option maxHeartbeats 1000000 in
theorem w_Sorted (h : Has A (φ 30) (f30 φ)) (v : AV) (xs : List Int) (hv : IsI v xs) (hn : xs.length < 1000000000000) : PVal A (φ 30) [v] (vI (sortI xs)) := by
  have l1 := hv.len
  refine pval_has h rfl ?_
  simp only [l30_7, l30_12, b30, f30]
  simp [↓getD_z, ↓getD_s, -List.getD_eq_getElem?_getD, -Int.ofNat_toNat, -getElem?_pos, gz, ↓hid_k, ↓hid_o, ↓hid_q, ↓hid_v, ↓PO_nil, ↓PO_none, ↓PO_grd, ↓PD_nil, ↓PD_none, ↓PD_grd, ↓PDO_N, ↓PDO_X, ↓PDO_call, ↓PDO_calli, ↓PDO_callv, PDX_free, PDX_eq, ↓PStep_N, ↓PStep_X, ↓PStep_call, ↓PStep_calli, PStep_callv, ↓PC_skip, ↓PC_lab, ↓PC_ret, ↓PC_exit, ↓PC_reg, ↓PC_draw, ↓PC_seq, ↓PC_block, ↓PC_loop, ↓PC_scope, ↓PC_cond, ↓thenC_norm, ↓thenC_ret, ↓thenC_exit, ↓blockC_norm, ↓blockC_ret, ↓blockC_exit, ↓loopC_norm, ↓loopC_ret, ↓loopC_exit, ↓endR_ret, ↓endR_norm, resK_none, resK_t, resK_tt, KNO_val, KNO_new, KNO_ite, KNO_map, KXO_some, KXO_ite, KVA_t, KVA_f, KG_skip, KG_tt, KG_ff, KG_tf, KG_ft, KB_true, KB_false, KNOD_val, KNOD_new, KNOD_ite, n_mv, n_pick, n_bin, n_eqB, n_eqN, n_eqS, n_un, n_conv, n_fadd, n_faddV, n_fld1, n_fldN, n_idx, n_idxA, n_idxV, n_idxAV, n_ext, n_lenS, n_lenS0, n_lenV, n_lenT, n_lenA, n_min, n_max, n_build, n_mkfn, n_slc, n_slc0, n_slcV, n_slcA, n_load1, n_loadN, n_load1V, n_loadNV, n_alloc, n_box, n_bsl, n_mksl, n_nilcP, n_nilcV, n_nilcI, n_nilcF, x_store, x_clear0, x_clear, b_add, b_sub, b_mul, b_eql, b_neq, b_lss, b_leq, b_gtr, b_geq, b_and16, unV, ntouch, gather, hide, unhide, evalOpd, applyOuts, int_bne, int_beq, ite_bool, ite_int, one_bool, cells_bool, one_int, cells_int, one_str, cells_str, one_nilp, cells_nilp, one_ptr, cells_ptr, one_nils, cells_nils, one_sl, cells_sl, one_nilf, cells_nilf, one_fn, cells_fn, one_nili, cells_nili, one_mp, cells_mp, one_nilm, cells_nilm, one_iface, cells_iface, one_vs, cells_vs, one_vp, cells_vp, cells_agg, Nat.testBit, setAt_1, setAt_2, closeds_nil, closeds_cons, closed_bool, closed_int, closed_str, closed_nilp, closed_nils, closed_nilm, closed_nilf, closed_nili, closed_agg, closed_tup, closed_vs, closed_vp, closed_iface, closed_fn, closeds_cI, closeds_cE, viewA_closed, viewR_closed, AV.scal, AV.scal0, fillA, repA, part_bool, part_int, part_str, part_nilp, part_ptr, part_nils, part_sl, part_nilm, part_mp, part_nilf, part_fn, part_nili, part_iface, part_agg, part_vs, part_vp, viewA_sl1, vaSl_cells, wrap_0, wrap_1, wrap_2, wrap_m1, set_last, get_last, er30_0, er30_1, er30_2, er30_3, er30_4, er30_5, er30_6, er30_8, er30_9, er30_10, er30_11, er30_13]
  refine pc_loopI (fun m st => ∃ (i : Nat) (o p q r : AV) (H : Heap), i + m = xs.length ∧ OwnI false 0 H o (sortI (xs.take i)) ∧ st = ([v, .nils, o, .int .i64 i, p, q, r], H)) xs.length ⟨0, _, _, _, _, _, by simp, by rw [List.take_zero, sortI_nil]; exact own_empty 0 _ 1 0 0 0, rfl⟩ ?_
  rintro m st ⟨i, o, p, q, r, H, hi, ho, rfl⟩
  have hol := ho.len
  have hsl : (sortI (xs.take i)).length = i := by rw [sortI_len]; simp; omega
  by_cases hlt : i < xs.length
  · obtain ⟨i1, g1⟩ := hv.at hlt
    have hw := wrap1 hlt (by omega)
    simp [↓getD_z, ↓getD_s, -List.getD_eq_getElem?_getD, -Int.ofNat_toNat, -getElem?_pos, gz, ↓hid_k, ↓hid_o, ↓hid_q, ↓hid_v, ↓PO_nil, ↓PO_none, ↓PO_grd, ↓PD_nil, ↓PD_none, ↓PD_grd, ↓PDO_N, ↓PDO_X, ↓PDO_call, ↓PDO_calli, ↓PDO_callv, PDX_free, PDX_eq, ↓PStep_N, ↓PStep_X, ↓PStep_call, ↓PStep_calli, PStep_callv, ↓PC_skip, ↓PC_lab, ↓PC_ret, ↓PC_exit, ↓PC_reg, ↓PC_draw, ↓PC_seq, ↓PC_block, ↓PC_loop, ↓PC_scope, ↓PC_cond, ↓thenC_norm, ↓thenC_ret, ↓thenC_exit, ↓blockC_norm, ↓blockC_ret, ↓blockC_exit, ↓loopC_norm, ↓loopC_ret, ↓loopC_exit, ↓endR_ret, ↓endR_norm, resK_none, resK_t, resK_tt, KNO_val, KNO_new, KNO_ite, KNO_map, KXO_some, KXO_ite, KVA_t, KVA_f, KG_skip, KG_tt, KG_ff, KG_tf, KG_ft, KB_true, KB_false, KNOD_val, KNOD_new, KNOD_ite, n_mv, n_pick, n_bin, n_eqB, n_eqN, n_eqS, n_un, n_conv, n_fadd, n_faddV, n_fld1, n_fldN, n_idx, n_idxA, n_idxV, n_idxAV, n_ext, n_lenS, n_lenS0, n_lenV, n_lenT, n_lenA, n_min, n_max, n_build, n_mkfn, n_slc, n_slc0, n_slcV, n_slcA, n_load1, n_loadN, n_load1V, n_loadNV, n_alloc, n_box, n_bsl, n_mksl, n_nilcP, n_nilcV, n_nilcI, n_nilcF, x_store, x_clear0, x_clear, b_add, b_sub, b_mul, b_eql, b_neq, b_lss, b_leq, b_gtr, b_geq, b_and16, unV, ntouch, gather, hide, unhide, evalOpd, applyOuts, int_bne, int_beq, ite_bool, ite_int, one_bool, cells_bool, one_int, cells_int, one_str, cells_str, one_nilp, cells_nilp, one_ptr, cells_ptr, one_nils, cells_nils, one_sl, cells_sl, one_nilf, cells_nilf, one_fn, cells_fn, one_nili, cells_nili, one_mp, cells_mp, one_nilm, cells_nilm, one_iface, cells_iface, one_vs, cells_vs, one_vp, cells_vp, cells_agg, Nat.testBit, setAt_1, setAt_2, closeds_nil, closeds_cons, closed_bool, closed_int, closed_str, closed_nilp, closed_nils, closed_nilm, closed_nilf, closed_nili, closed_agg, closed_tup, closed_vs, closed_vp, closed_iface, closed_fn, closeds_cI, closeds_cE, viewA_closed, viewR_closed, AV.scal, AV.scal0, fillA, repA, part_bool, part_int, part_str, part_nilp, part_ptr, part_nils, part_sl, part_nilm, part_mp, part_nilf, part_fn, part_nili, part_iface, part_agg, part_vs, part_vp, viewA_sl1, vaSl_cells, wrap_0, wrap_1, wrap_2, wrap_m1, set_last, get_last, er30_0, er30_1, er30_2, er30_3, er30_4, er30_5, er30_6, er30_8, er30_9, er30_10, er30_11, er30_13, l1, hlt, hol]
    refine pc_loopI (fun m st => ∃ (j : Nat) (r : AV), j = m ∧ j ≤ i ∧ (∀ k (h : k < (sortI (xs.take i)).length), j ≤ k → xs[i] < (sortI (xs.take i))[k]) ∧ st = ([v, .nils, o, .int .i64 i, .int .i64 j, .bool true, r], H)) i ⟨i, _, rfl, by omega, fun k h hk => by omega, by simp [hsl]; rfl⟩ ?_
    rintro m st ⟨j, r, rfl, hji, hgt, rfl⟩
    generalize hx : xs[i] = x at *
    have htk : xs.take (i + 1) = xs.take i ++ [x] := by rw [List.take_succ_eq_append_getElem hlt, hx]
    have hwj := wrap1 (i := j) (n := i + 1) (by omega) (by omega)
    by_cases hj : j = 0
    · have hj0 : ¬ 0 < j := by omega
      have hor : j = 0 ∨ ∀ h : j - 1 < (sortI (xs.take i)).length, (sortI (xs.take i))[j - 1] ≤ x := .inl hj
      simp [↓getD_z, ↓getD_s, -List.getD_eq_getElem?_getD, -Int.ofNat_toNat, -getElem?_pos, gz, ↓hid_k, ↓hid_o, ↓hid_q, ↓hid_v, ↓PO_nil, ↓PO_none, ↓PO_grd, ↓PD_nil, ↓PD_none, ↓PD_grd, ↓PDO_N, ↓PDO_X, ↓PDO_call, ↓PDO_calli, ↓PDO_callv, PDX_free, PDX_eq, ↓PStep_N, ↓PStep_X, ↓PStep_call, ↓PStep_calli, PStep_callv, ↓PC_skip, ↓PC_lab, ↓PC_ret, ↓PC_exit, ↓PC_reg, ↓PC_draw, ↓PC_seq, ↓PC_block, ↓PC_loop, ↓PC_scope, ↓PC_cond, ↓thenC_norm, ↓thenC_ret, ↓thenC_exit, ↓blockC_norm, ↓blockC_ret, ↓blockC_exit, ↓loopC_norm, ↓loopC_ret, ↓loopC_exit, ↓endR_ret, ↓endR_norm, resK_none, resK_t, resK_tt, KNO_val, KNO_new, KNO_ite, KNO_map, KXO_some, KXO_ite, KVA_t, KVA_f, KG_skip, KG_tt, KG_ff, KG_tf, KG_ft, KB_true, KB_false, KNOD_val, KNOD_new, KNOD_ite, n_mv, n_pick, n_bin, n_eqB, n_eqN, n_eqS, n_un, n_conv, n_fadd, n_faddV, n_fld1, n_fldN, n_idx, n_idxA, n_idxV, n_idxAV, n_ext, n_lenS, n_lenS0, n_lenV, n_lenT, n_lenA, n_min, n_max, n_build, n_mkfn, n_slc, n_slc0, n_slcV, n_slcA, n_load1, n_loadN, n_load1V, n_loadNV, n_alloc, n_box, n_bsl, n_mksl, n_nilcP, n_nilcV, n_nilcI, n_nilcF, x_store, x_clear0, x_clear, b_add, b_sub, b_mul, b_eql, b_neq, b_lss, b_leq, b_gtr, b_geq, b_and16, unV, ntouch, gather, hide, unhide, evalOpd, applyOuts, int_bne, int_beq, ite_bool, ite_int, one_bool, cells_bool, one_int, cells_int, one_str, cells_str, one_nilp, cells_nilp, one_ptr, cells_ptr, one_nils, cells_nils, one_sl, cells_sl, one_nilf, cells_nilf, one_fn, cells_fn, one_nili, cells_nili, one_mp, cells_mp, one_nilm, cells_nilm, one_iface, cells_iface, one_vs, cells_vs, one_vp, cells_vp, cells_agg, Nat.testBit, setAt_1, setAt_2, closeds_nil, closeds_cons, closed_bool, closed_int, closed_str, closed_nilp, closed_nils, closed_nilm, closed_nilf, closed_nili, closed_agg, closed_tup, closed_vs, closed_vp, closed_iface, closed_fn, closeds_cI, closeds_cE, viewA_closed, viewR_closed, AV.scal, AV.scal0, fillA, repA, part_bool, part_int, part_str, part_nilp, part_ptr, part_nils, part_sl, part_nilm, part_mp, part_nilf, part_fn, part_nili, part_iface, part_agg, part_vs, part_vp, viewA_sl1, vaSl_cells, wrap_0, wrap_1, wrap_2, wrap_m1, set_last, get_last, er30_0, er30_1, er30_2, er30_3, er30_4, er30_5, er30_6, er30_13, hj0]
      obtain ⟨o', H1, x1, x2, x3, x4, x5, x6⟩ := ho.app1 0 (by simp) (by omega)
      rcases x2 with ⟨h0, _⟩ | ⟨h0, b, g, ex, rfl, hP, hl, hb⟩
      · simp at h0
      have hlt1 := lt_of_get hb
      rw [cI_append] at hb
      simp only [cI_cons, cI_nil] at hb
      have hl2 : (cI (sortI (xs.take i)) ++ [AV.int .i64 0]).length = i + 1 := by simp [cI_len, hsl]
      obtain ⟨r, hcp⟩ := x_copy_own (p := j) (n := i) (ex := ex) (ex2 := ex) (cl1 := i - j) (cl2 := i + 1 - j) hb hl2 hji (by rw [List.all_append, ones_cI]; rfl)
      have hic := ins_cells (sortI (xs.take i)) x j (by omega)
      rw [hsl] at hic
      have hcl : (setAt (cI (sortI (xs.take i)) ++ [AV.int .i64 0]) (j + 1) (((cI (sortI (xs.take i)) ++ [AV.int .i64 0]).drop j).take (i - j))).length = i + 1 := by
        rw [setAt_len (by simp [cI_len, hsl]; omega)]; simp [cI_len, hsl]
      have hset : ∀ z, (H1.set b z)[b]? = some z := fun z => List.getElem?_set_self hlt1
      have b1 : (0 : Int) ≤ (j : Int) + 1 := by omega
      have b2 : (j : Int) ≤ (i : Int) + 1 := by omega
      have b3 : j < i + 1 := by omega
      have htk2 : sortI (xs.take (i + 1)) = (sortI (xs.take i)).take j ++ x :: (sortI (xs.take i)).drop j := by
        rw [htk]; exact sortI_ins (by omega) hgt hor
      have hsl2 : (sortI (xs.take (i + 1))).length = i + 1 := by rw [sortI_len]; simp; omega
      simp [↓getD_z, ↓getD_s, -List.getD_eq_getElem?_getD, -Int.ofNat_toNat, -getElem?_pos, gz, ↓hid_k, ↓hid_o, ↓hid_q, ↓hid_v, ↓PO_nil, ↓PO_none, ↓PO_grd, ↓PD_nil, ↓PD_none, ↓PD_grd, ↓PDO_N, ↓PDO_X, ↓PDO_call, ↓PDO_calli, ↓PDO_callv, PDX_free, PDX_eq, ↓PStep_N, ↓PStep_X, ↓PStep_call, ↓PStep_calli, PStep_callv, ↓PC_skip, ↓PC_lab, ↓PC_ret, ↓PC_exit, ↓PC_reg, ↓PC_draw, ↓PC_seq, ↓PC_block, ↓PC_loop, ↓PC_scope, ↓PC_cond, ↓thenC_norm, ↓thenC_ret, ↓thenC_exit, ↓blockC_norm, ↓blockC_ret, ↓blockC_exit, ↓loopC_norm, ↓loopC_ret, ↓loopC_exit, ↓endR_ret, ↓endR_norm, resK_none, resK_t, resK_tt, KNO_val, KNO_new, KNO_ite, KNO_map, KXO_some, KXO_ite, KVA_t, KVA_f, KG_skip, KG_tt, KG_ff, KG_tf, KG_ft, KB_true, KB_false, KNOD_val, KNOD_new, KNOD_ite, n_mv, n_pick, n_bin, n_eqB, n_eqN, n_eqS, n_un, n_conv, n_fadd, n_faddV, n_fld1, n_fldN, n_idx, n_idxA, n_idxV, n_idxAV, n_ext, n_lenS, n_lenS0, n_lenV, n_lenT, n_lenA, n_min, n_max, n_build, n_mkfn, n_slc, n_slc0, n_slcV, n_slcA, n_load1, n_loadN, n_load1V, n_loadNV, n_alloc, n_box, n_bsl, n_mksl, n_nilcP, n_nilcV, n_nilcI, n_nilcF, x_store, x_clear0, x_clear, b_add, b_sub, b_mul, b_eql, b_neq, b_lss, b_leq, b_gtr, b_geq, b_and16, unV, ntouch, gather, hide, unhide, evalOpd, applyOuts, int_bne, int_beq, ite_bool, ite_int, one_bool, cells_bool, one_int, cells_int, one_str, cells_str, one_nilp, cells_nilp, one_ptr, cells_ptr, one_nils, cells_nils, one_sl, cells_sl, one_nilf, cells_nilf, one_fn, cells_fn, one_nili, cells_nili, one_mp, cells_mp, one_nilm, cells_nilm, one_iface, cells_iface, one_vs, cells_vs, one_vp, cells_vp, cells_agg, Nat.testBit, setAt_1, setAt_2, closeds_nil, closeds_cons, closed_bool, closed_int, closed_str, closed_nilp, closed_nils, closed_nilm, closed_nilf, closed_nili, closed_agg, closed_tup, closed_vs, closed_vp, closed_iface, closed_fn, closeds_cI, closeds_cE, viewA_closed, viewR_closed, AV.scal, AV.scal0, fillA, repA, part_bool, part_int, part_str, part_nilp, part_ptr, part_nils, part_sl, part_nilm, part_mp, part_nilf, part_fn, part_nili, part_iface, part_agg, part_vs, part_vp, viewA_sl1, vaSl_cells, wrap_0, wrap_1, wrap_2, wrap_m1, set_last, get_last, er30_0, er30_1, er30_2, er30_3, er30_4, er30_5, er30_6, er30_8, er30_9, er30_10, er30_11, er30_13, x1, hsl, hwj, bounds3, intArg, hji, b1, b2, b3, hcp, i1, g1, hset, hcl, hic, hw]
      refine ⟨by omega, ?_⟩
      exact next_mk (m - 1) (by omega) ⟨i + 1, _, _, _, _, _, by omega, .inr ⟨by omega, b, g, ex, by rw [hsl2], hP, by rw [cI_len]; omega, by rw [htk2]; exact hset _⟩, rfl⟩
    have hj0 : 0 < j := by omega
    have hjl : j - 1 < (sortI (xs.take i)).length := by omega
    have hwm : IntKind.i64.wrap ((j : Int) - 1) = ((j - 1 : Nat) : Int) := by rw [wrap_in (by omega) (by omega)]; omega
    obtain ⟨b0, g0, oi, oc, _, _, _⟩ := Own.at ho hjl
    have oc2 := cI_get hjl
    by_cases hlx : x < (sortI (xs.take i))[j - 1]
    · simp [↓getD_z, ↓getD_s, -List.getD_eq_getElem?_getD, -Int.ofNat_toNat, -getElem?_pos, gz, ↓hid_k, ↓hid_o, ↓hid_q, ↓hid_v, ↓PO_nil, ↓PO_none, ↓PO_grd, ↓PD_nil, ↓PD_none, ↓PD_grd, ↓PDO_N, ↓PDO_X, ↓PDO_call, ↓PDO_calli, ↓PDO_callv, PDX_free, PDX_eq, ↓PStep_N, ↓PStep_X, ↓PStep_call, ↓PStep_calli, PStep_callv, ↓PC_skip, ↓PC_lab, ↓PC_ret, ↓PC_exit, ↓PC_reg, ↓PC_draw, ↓PC_seq, ↓PC_block, ↓PC_loop, ↓PC_scope, ↓PC_cond, ↓thenC_norm, ↓thenC_ret, ↓thenC_exit, ↓blockC_norm, ↓blockC_ret, ↓blockC_exit, ↓loopC_norm, ↓loopC_ret, ↓loopC_exit, ↓endR_ret, ↓endR_norm, resK_none, resK_t, resK_tt, KNO_val, KNO_new, KNO_ite, KNO_map, KXO_some, KXO_ite, KVA_t, KVA_f, KG_skip, KG_tt, KG_ff, KG_tf, KG_ft, KB_true, KB_false, KNOD_val, KNOD_new, KNOD_ite, n_mv, n_pick, n_bin, n_eqB, n_eqN, n_eqS, n_un, n_conv, n_fadd, n_faddV, n_fld1, n_fldN, n_idx, n_idxA, n_idxV, n_idxAV, n_ext, n_lenS, n_lenS0, n_lenV, n_lenT, n_lenA, n_min, n_max, n_build, n_mkfn, n_slc, n_slc0, n_slcV, n_slcA, n_load1, n_loadN, n_load1V, n_loadNV, n_alloc, n_box, n_bsl, n_mksl, n_nilcP, n_nilcV, n_nilcI, n_nilcF, x_store, x_clear0, x_clear, b_add, b_sub, b_mul, b_eql, b_neq, b_lss, b_leq, b_gtr, b_geq, b_and16, unV, ntouch, gather, hide, unhide, evalOpd, applyOuts, int_bne, int_beq, ite_bool, ite_int, one_bool, cells_bool, one_int, cells_int, one_str, cells_str, one_nilp, cells_nilp, one_ptr, cells_ptr, one_nils, cells_nils, one_sl, cells_sl, one_nilf, cells_nilf, one_fn, cells_fn, one_nili, cells_nili, one_mp, cells_mp, one_nilm, cells_nilm, one_iface, cells_iface, one_vs, cells_vs, one_vp, cells_vp, cells_agg, Nat.testBit, setAt_1, setAt_2, closeds_nil, closeds_cons, closed_bool, closed_int, closed_str, closed_nilp, closed_nils, closed_nilm, closed_nilf, closed_nili, closed_agg, closed_tup, closed_vs, closed_vp, closed_iface, closed_fn, closeds_cI, closeds_cE, viewA_closed, viewR_closed, AV.scal, AV.scal0, fillA, repA, part_bool, part_int, part_str, part_nilp, part_ptr, part_nils, part_sl, part_nilm, part_mp, part_nilf, part_fn, part_nili, part_iface, part_agg, part_vs, part_vp, viewA_sl1, vaSl_cells, wrap_0, wrap_1, wrap_2, wrap_m1, set_last, get_last, er30_0, er30_1, er30_2, er30_3, er30_4, er30_5, er30_6, er30_13, hj0, hwm, oi, oc, oc2, i1, g1, hlx]
      refine next_mk (j - 1) (by omega) ⟨j - 1, _, rfl, by omega, fun k hk hle => ?_, rfl⟩
      by_cases e : k = j - 1
      · subst e; exact hlx
      · exact hgt k hk (by omega)
    · have hor : j = 0 ∨ ∀ h : j - 1 < (sortI (xs.take i)).length, (sortI (xs.take i))[j - 1] ≤ x := .inr fun _ => by omega
      simp [↓getD_z, ↓getD_s, -List.getD_eq_getElem?_getD, -Int.ofNat_toNat, -getElem?_pos, gz, ↓hid_k, ↓hid_o, ↓hid_q, ↓hid_v, ↓PO_nil, ↓PO_none, ↓PO_grd, ↓PD_nil, ↓PD_none, ↓PD_grd, ↓PDO_N, ↓PDO_X, ↓PDO_call, ↓PDO_calli, ↓PDO_callv, PDX_free, PDX_eq, ↓PStep_N, ↓PStep_X, ↓PStep_call, ↓PStep_calli, PStep_callv, ↓PC_skip, ↓PC_lab, ↓PC_ret, ↓PC_exit, ↓PC_reg, ↓PC_draw, ↓PC_seq, ↓PC_block, ↓PC_loop, ↓PC_scope, ↓PC_cond, ↓thenC_norm, ↓thenC_ret, ↓thenC_exit, ↓blockC_norm, ↓blockC_ret, ↓blockC_exit, ↓loopC_norm, ↓loopC_ret, ↓loopC_exit, ↓endR_ret, ↓endR_norm, resK_none, resK_t, resK_tt, KNO_val, KNO_new, KNO_ite, KNO_map, KXO_some, KXO_ite, KVA_t, KVA_f, KG_skip, KG_tt, KG_ff, KG_tf, KG_ft, KB_true, KB_false, KNOD_val, KNOD_new, KNOD_ite, n_mv, n_pick, n_bin, n_eqB, n_eqN, n_eqS, n_un, n_conv, n_fadd, n_faddV, n_fld1, n_fldN, n_idx, n_idxA, n_idxV, n_idxAV, n_ext, n_lenS, n_lenS0, n_lenV, n_lenT, n_lenA, n_min, n_max, n_build, n_mkfn, n_slc, n_slc0, n_slcV, n_slcA, n_load1, n_loadN, n_load1V, n_loadNV, n_alloc, n_box, n_bsl, n_mksl, n_nilcP, n_nilcV, n_nilcI, n_nilcF, x_store, x_clear0, x_clear, b_add, b_sub, b_mul, b_eql, b_neq, b_lss, b_leq, b_gtr, b_geq, b_and16, unV, ntouch, gather, hide, unhide, evalOpd, applyOuts, int_bne, int_beq, ite_bool, ite_int, one_bool, cells_bool, one_int, cells_int, one_str, cells_str, one_nilp, cells_nilp, one_ptr, cells_ptr, one_nils, cells_nils, one_sl, cells_sl, one_nilf, cells_nilf, one_fn, cells_fn, one_nili, cells_nili, one_mp, cells_mp, one_nilm, cells_nilm, one_iface, cells_iface, one_vs, cells_vs, one_vp, cells_vp, cells_agg, Nat.testBit, setAt_1, setAt_2, closeds_nil, closeds_cons, closed_bool, closed_int, closed_str, closed_nilp, closed_nils, closed_nilm, closed_nilf, closed_nili, closed_agg, closed_tup, closed_vs, closed_vp, closed_iface, closed_fn, closeds_cI, closeds_cE, viewA_closed, viewR_closed, AV.scal, AV.scal0, fillA, repA, part_bool, part_int, part_str, part_nilp, part_ptr, part_nils, part_sl, part_nilm, part_mp, part_nilf, part_fn, part_nili, part_iface, part_agg, part_vs, part_vp, viewA_sl1, vaSl_cells, wrap_0, wrap_1, wrap_2, wrap_m1, set_last, get_last, er30_0, er30_1, er30_2, er30_3, er30_4, er30_5, er30_6, er30_13, hj0, hwm, oi, oc, oc2, i1, g1, hlx]
      clear oi oc oc2
      obtain ⟨o', H1, x1, x2, x3, x4, x5, x6⟩ := ho.app1 0 (by simp) (by omega)
      rcases x2 with ⟨h0, _⟩ | ⟨h0, b, g, ex, rfl, hP, hl, hb⟩
      · simp at h0
      have hlt1 := lt_of_get hb
      rw [cI_append] at hb
      simp only [cI_cons, cI_nil] at hb
      have hl2 : (cI (sortI (xs.take i)) ++ [AV.int .i64 0]).length = i + 1 := by simp [cI_len, hsl]
      obtain ⟨r, hcp⟩ := x_copy_own (p := j) (n := i) (ex := ex) (ex2 := ex) (cl1 := i - j) (cl2 := i + 1 - j) hb hl2 hji (by rw [List.all_append, ones_cI]; rfl)
      have hic := ins_cells (sortI (xs.take i)) x j (by omega)
      rw [hsl] at hic
      have hcl : (setAt (cI (sortI (xs.take i)) ++ [AV.int .i64 0]) (j + 1) (((cI (sortI (xs.take i)) ++ [AV.int .i64 0]).drop j).take (i - j))).length = i + 1 := by
        rw [setAt_len (by simp [cI_len, hsl]; omega)]; simp [cI_len, hsl]
      have hset : ∀ z, (H1.set b z)[b]? = some z := fun z => List.getElem?_set_self hlt1
      have b1 : (0 : Int) ≤ (j : Int) + 1 := by omega
      have b2 : (j : Int) ≤ (i : Int) + 1 := by omega
      have b3 : j < i + 1 := by omega
      have htk2 : sortI (xs.take (i + 1)) = (sortI (xs.take i)).take j ++ x :: (sortI (xs.take i)).drop j := by
        rw [htk]; exact sortI_ins (by omega) hgt hor
      have hsl2 : (sortI (xs.take (i + 1))).length = i + 1 := by rw [sortI_len]; simp; omega
      simp [↓getD_z, ↓getD_s, -List.getD_eq_getElem?_getD, -Int.ofNat_toNat, -getElem?_pos, gz, ↓hid_k, ↓hid_o, ↓hid_q, ↓hid_v, ↓PO_nil, ↓PO_none, ↓PO_grd, ↓PD_nil, ↓PD_none, ↓PD_grd, ↓PDO_N, ↓PDO_X, ↓PDO_call, ↓PDO_calli, ↓PDO_callv, PDX_free, PDX_eq, ↓PStep_N, ↓PStep_X, ↓PStep_call, ↓PStep_calli, PStep_callv, ↓PC_skip, ↓PC_lab, ↓PC_ret, ↓PC_exit, ↓PC_reg, ↓PC_draw, ↓PC_seq, ↓PC_block, ↓PC_loop, ↓PC_scope, ↓PC_cond, ↓thenC_norm, ↓thenC_ret, ↓thenC_exit, ↓blockC_norm, ↓blockC_ret, ↓blockC_exit, ↓loopC_norm, ↓loopC_ret, ↓loopC_exit, ↓endR_ret, ↓endR_norm, resK_none, resK_t, resK_tt, KNO_val, KNO_new, KNO_ite, KNO_map, KXO_some, KXO_ite, KVA_t, KVA_f, KG_skip, KG_tt, KG_ff, KG_tf, KG_ft, KB_true, KB_false, KNOD_val, KNOD_new, KNOD_ite, n_mv, n_pick, n_bin, n_eqB, n_eqN, n_eqS, n_un, n_conv, n_fadd, n_faddV, n_fld1, n_fldN, n_idx, n_idxA, n_idxV, n_idxAV, n_ext, n_lenS, n_lenS0, n_lenV, n_lenT, n_lenA, n_min, n_max, n_build, n_mkfn, n_slc, n_slc0, n_slcV, n_slcA, n_load1, n_loadN, n_load1V, n_loadNV, n_alloc, n_box, n_bsl, n_mksl, n_nilcP, n_nilcV, n_nilcI, n_nilcF, x_store, x_clear0, x_clear, b_add, b_sub, b_mul, b_eql, b_neq, b_lss, b_leq, b_gtr, b_geq, b_and16, unV, ntouch, gather, hide, unhide, evalOpd, applyOuts, int_bne, int_beq, ite_bool, ite_int, one_bool, cells_bool, one_int, cells_int, one_str, cells_str, one_nilp, cells_nilp, one_ptr, cells_ptr, one_nils, cells_nils, one_sl, cells_sl, one_nilf, cells_nilf, one_fn, cells_fn, one_nili, cells_nili, one_mp, cells_mp, one_nilm, cells_nilm, one_iface, cells_iface, one_vs, cells_vs, one_vp, cells_vp, cells_agg, Nat.testBit, setAt_1, setAt_2, closeds_nil, closeds_cons, closed_bool, closed_int, closed_str, closed_nilp, closed_nils, closed_nilm, closed_nilf, closed_nili, closed_agg, closed_tup, closed_vs, closed_vp, closed_iface, closed_fn, closeds_cI, closeds_cE, viewA_closed, viewR_closed, AV.scal, AV.scal0, fillA, repA, part_bool, part_int, part_str, part_nilp, part_ptr, part_nils, part_sl, part_nilm, part_mp, part_nilf, part_fn, part_nili, part_iface, part_agg, part_vs, part_vp, viewA_sl1, vaSl_cells, wrap_0, wrap_1, wrap_2, wrap_m1, set_last, get_last, er30_0, er30_1, er30_2, er30_3, er30_4, er30_5, er30_6, er30_8, er30_9, er30_10, er30_11, er30_13, x1, hsl, hwj, bounds3, intArg, hji, b1, b2, b3, hcp, i1, g1, hset, hcl, hic, hw]
      refine ⟨by omega, ?_⟩
      exact next_mk (m - 1) (by omega) ⟨i + 1, _, _, _, _, _, by omega, .inr ⟨by omega, b, g, ex, by rw [hsl2], hP, by rw [cI_len]; omega, by rw [htk2]; exact hset _⟩, rfl⟩
  · have hm : xs.take i = xs := List.take_of_length_le (by omega)
    rw [hm] at ho
    simp [↓getD_z, ↓getD_s, -List.getD_eq_getElem?_getD, -Int.ofNat_toNat, -getElem?_pos, gz, ↓hid_k, ↓hid_o, ↓hid_q, ↓hid_v, ↓PO_nil, ↓PO_none, ↓PO_grd, ↓PD_nil, ↓PD_none, ↓PD_grd, ↓PDO_N, ↓PDO_X, ↓PDO_call, ↓PDO_calli, ↓PDO_callv, PDX_free, PDX_eq, ↓PStep_N, ↓PStep_X, ↓PStep_call, ↓PStep_calli, PStep_callv, ↓PC_skip, ↓PC_lab, ↓PC_ret, ↓PC_exit, ↓PC_reg, ↓PC_draw, ↓PC_seq, ↓PC_block, ↓PC_loop, ↓PC_scope, ↓PC_cond, ↓thenC_norm, ↓thenC_ret, ↓thenC_exit, ↓blockC_norm, ↓blockC_ret, ↓blockC_exit, ↓loopC_norm, ↓loopC_ret, ↓loopC_exit, ↓endR_ret, ↓endR_norm, resK_none, resK_t, resK_tt, KNO_val, KNO_new, KNO_ite, KNO_map, KXO_some, KXO_ite, KVA_t, KVA_f, KG_skip, KG_tt, KG_ff, KG_tf, KG_ft, KB_true, KB_false, KNOD_val, KNOD_new, KNOD_ite, n_mv, n_pick, n_bin, n_eqB, n_eqN, n_eqS, n_un, n_conv, n_fadd, n_faddV, n_fld1, n_fldN, n_idx, n_idxA, n_idxV, n_idxAV, n_ext, n_lenS, n_lenS0, n_lenV, n_lenT, n_lenA, n_min, n_max, n_build, n_mkfn, n_slc, n_slc0, n_slcV, n_slcA, n_load1, n_loadN, n_load1V, n_loadNV, n_alloc, n_box, n_bsl, n_mksl, n_nilcP, n_nilcV, n_nilcI, n_nilcF, x_store, x_clear0, x_clear, b_add, b_sub, b_mul, b_eql, b_neq, b_lss, b_leq, b_gtr, b_geq, b_and16, unV, ntouch, gather, hide, unhide, evalOpd, applyOuts, int_bne, int_beq, ite_bool, ite_int, one_bool, cells_bool, one_int, cells_int, one_str, cells_str, one_nilp, cells_nilp, one_ptr, cells_ptr, one_nils, cells_nils, one_sl, cells_sl, one_nilf, cells_nilf, one_fn, cells_fn, one_nili, cells_nili, one_mp, cells_mp, one_nilm, cells_nilm, one_iface, cells_iface, one_vs, cells_vs, one_vp, cells_vp, cells_agg, Nat.testBit, setAt_1, setAt_2, closeds_nil, closeds_cons, closed_bool, closed_int, closed_str, closed_nilp, closed_nils, closed_nilm, closed_nilf, closed_nili, closed_agg, closed_tup, closed_vs, closed_vp, closed_iface, closed_fn, closeds_cI, closeds_cE, viewA_closed, viewR_closed, AV.scal, AV.scal0, fillA, repA, part_bool, part_int, part_str, part_nilp, part_ptr, part_nils, part_sl, part_nilm, part_mp, part_nilf, part_fn, part_nili, part_iface, part_agg, part_vs, part_vp, viewA_sl1, vaSl_cells, wrap_0, wrap_1, wrap_2, wrap_m1, set_last, get_last, er30_0, er30_1, er30_2, er30_3, er30_4, er30_5, er30_6, er30_8, er30_9, er30_10, er30_11, er30_13, l1, hlt, ho.view, rv_false]
end Go.Ai.G
/- Functions of the program (package slices) as code of the abstract machine: written by a program of this session out of the elaborated operations. -/
namespace Go.Ai.G
set_option maxRecDepth 100000
set_option linter.unusedVariables false
/-! 28: slices.Compact[[]carcanet/api.Edge,carcanet/api.Edge]: 0:s 1: 2:k 3:s2 4:k2 5: 6: 7: 8: 9: -/
def r28_0 (φ : Nat → Nat) : List AOper := [
  ⟨0, .N .mv, [.c (.nils)], none, 0⟩]
def r28_1 (φ : Nat → Nat) : List AOper := [
  ⟨0, .N .mv, [.n 0], none, 0⟩,
  ⟨1, .N .lenS, [.l 0], none, 0⟩,
  ⟨2, .N (.bin .lss), [.l 0, .c (.int .i64 2)], none, 0⟩]
def r28_2 (φ : Nat → Nat) : List AOper := [
  ⟨0, .N .mv, [.n 0], none, 0⟩,
  ⟨1, .N .mv, [.l 0], none, 0⟩]
def r28_3 (φ : Nat → Nat) : List AOper := [
  ⟨0, .N .mv, [.c (.int .i64 1)], none, 0⟩]
def r28_4 (φ : Nat → Nat) : List AOper := [
  ⟨0, .N .mv, [.n 2], none, 0⟩,
  ⟨1, .N .mv, [.n 0], none, 0⟩,
  ⟨2, .N .lenS, [.l 0], none, 0⟩,
  ⟨3, .N (.bin .lss), [.l 2, .l 0], none, 0⟩]
def r28_5 (φ : Nat → Nat) : List AOper := [
  ⟨0, .N .mv, [.n 0], none, 0⟩,
  ⟨1, .N .mv, [.n 2], none, 0⟩,
  ⟨2, .N (.idx 2), [.l 1, .l 0], none, 3⟩,
  ⟨3, .N (.loadN 2), [.l 0], none, 7⟩,
  ⟨4, .N .mv, [.n 0], none, 0⟩,
  ⟨5, .N .mv, [.n 2], none, 0⟩,
  ⟨6, .N (.bin .sub), [.l 0, .c (.int .i64 1)], none, 32⟩,
  ⟨7, .N (.idx 2), [.l 2, .l 0], none, 112⟩,
  ⟨8, .N (.loadN 2), [.l 0], none, 240⟩,
  ⟨9, .N (.eqS [1, 1] false), [.l 5, .l 0], none, 511⟩]
def r28_6 (φ : Nat → Nat) : List AOper := [
  ⟨0, .N .mv, [.n 0], none, 0⟩,
  ⟨1, .N .mv, [.n 2], none, 0⟩,
  ⟨2, .N (.slc 2 true false false), [.l 1, .l 0], none, 0⟩,
  ⟨3, .N .mv, [.l 0], none, 0⟩]
def r28_7 (φ : Nat → Nat) : List AOper := [
  ⟨0, .N .mv, [.c (.int .i64 1)], none, 0⟩]
def r28_8 (φ : Nat → Nat) : List AOper := [
  ⟨0, .N .mv, [.n 4], none, 0⟩,
  ⟨1, .N .mv, [.n 3], none, 0⟩,
  ⟨2, .N .lenS, [.l 0], none, 0⟩,
  ⟨3, .N (.bin .lss), [.l 2, .l 0], none, 0⟩]
def r28_9 (φ : Nat → Nat) : List AOper := [
  ⟨0, .N .mv, [.n 3], none, 0⟩,
  ⟨1, .N .mv, [.n 4], none, 0⟩,
  ⟨2, .N (.idx 2), [.l 1, .l 0], none, 3⟩,
  ⟨3, .N (.loadN 2), [.l 0], none, 7⟩,
  ⟨4, .N .mv, [.n 3], none, 0⟩,
  ⟨5, .N .mv, [.n 4], none, 0⟩,
  ⟨6, .N (.bin .sub), [.l 0, .c (.int .i64 1)], none, 32⟩,
  ⟨7, .N (.idx 2), [.l 2, .l 0], none, 112⟩,
  ⟨8, .N (.loadN 2), [.l 0], none, 240⟩,
  ⟨9, .N (.eqS [1, 1] true), [.l 5, .l 0], none, 511⟩]
def r28_10 (φ : Nat → Nat) : List AOper := [
  ⟨0, .N .mv, [.n 0], none, 0⟩,
  ⟨1, .N .mv, [.n 2], none, 0⟩,
  ⟨2, .N .mv, [.n 3], none, 0⟩,
  ⟨3, .N .mv, [.n 4], none, 0⟩,
  ⟨4, .N (.idx 2), [.l 1, .l 0], none, 0⟩,
  ⟨5, .N (.loadN 2), [.l 0], none, 0⟩,
  ⟨6, .N (.idx 2), [.l 5, .l 4], none, 0⟩,
  ⟨7, .X (.store 2), [.l 0, .l 1], none, 0⟩]
def r28_11 (φ : Nat → Nat) : List AOper := [
  ⟨0, .N .mv, [.n 2], none, 0⟩,
  ⟨1, .N (.bin .add), [.l 0, .c (.int .i64 1)], none, 0⟩,
  ⟨2, .N .mv, [.l 0], none, 0⟩]
def r28_12 (φ : Nat → Nat) : List AOper := [
  ⟨0, .N .mv, [.n 4], none, 0⟩,
  ⟨1, .N (.bin .add), [.l 0, .c (.int .i64 1)], none, 0⟩,
  ⟨2, .N .mv, [.l 0], none, 0⟩]
def l28_13 (φ : Nat → Nat) : ACode := .seq (.seq (.reg false (r28_8 φ) [(8, 0)]) (.cond (.n 8) (.skip) (.exit 2))) (.seq (.block 3 (.seq (.reg true (r28_9 φ) [(9, 0)]) (.cond (.n 9) (.seq (.reg false (r28_10 φ) []) (.reg false (r28_11 φ) [(2, 0)])) (.skip)))) (.reg false (r28_12 φ) [(4, 0)]))
def r28_14 (φ : Nat → Nat) : List AOper := [
  ⟨0, .N .mv, [.n 0], none, 0⟩,
  ⟨1, .N .mv, [.n 2], none, 0⟩,
  ⟨2, .N (.slc 2 true false false), [.l 1, .l 0], none, 0⟩,
  ⟨3, .X (.clear 2 [.int .i64 0, .int .i64 0]), [.l 0], none, 0⟩]
def r28_15 (φ : Nat → Nat) : List AOper := [
  ⟨0, .N .mv, [.n 0], none, 0⟩,
  ⟨1, .N .mv, [.n 2], none, 0⟩,
  ⟨2, .N (.slc 2 false true false), [.l 1, .l 0], none, 0⟩,
  ⟨3, .N .mv, [.l 0], none, 0⟩]
def r28_16 (φ : Nat → Nat) : List AOper := [
  ⟨0, .N .mv, [.n 2], none, 0⟩,
  ⟨1, .N (.bin .add), [.l 0, .c (.int .i64 1)], none, 0⟩,
  ⟨2, .N .mv, [.l 0], none, 0⟩]
def l28_17 (φ : Nat → Nat) : ACode := .seq (.seq (.reg false (r28_4 φ) [(6, 0)]) (.cond (.n 6) (.skip) (.exit 0))) (.seq (.block 1 (.seq (.reg true (r28_5 φ) [(7, 0)]) (.cond (.n 7) (.seq (.reg false (r28_6 φ) [(3, 0)]) (.seq (.seq (.reg false (r28_7 φ) [(4, 0)]) (.block 2 (.loop (l28_13 φ)))) (.seq (.reg false (r28_14 φ) []) (.seq (.reg false (r28_15 φ) [(1, 0)]) (.ret))))) (.skip)))) (.reg false (r28_16 φ) [(2, 0)]))
def r28_18 (φ : Nat → Nat) : List AOper := [
  ⟨0, .N .mv, [.n 0], none, 0⟩,
  ⟨1, .N .mv, [.l 0], none, 0⟩]
def b28 (φ : Nat → Nat) : ACode := .seq (.reg false (r28_0 φ) [(1, 0)]) (.seq (.seq (.reg false (r28_1 φ) [(5, 0)]) (.cond (.n 5) (.seq (.reg false (r28_2 φ) [(1, 0)]) (.ret)) (.skip))) (.seq (.seq (.reg false (r28_3 φ) [(2, 0)]) (.block 0 (.loop (l28_17 φ)))) (.seq (.reg false (r28_18 φ) [(1, 0)]) (.ret))))
def f28 (φ : Nat → Nat) : AFn := ⟨1, [0, 2, 3, 4, 5, 8, 13, 25, 32, 44], 61, b28 φ, [.t 1]⟩
/-! 32: slices.Clone[[]carcanet/api.Edge,carcanet/api.Edge]: 0:s 1: 2: -/
def r32_0 (φ : Nat → Nat) : List AOper := [
  ⟨0, .N .mv, [.c (.nils)], none, 0⟩]
def r32_1 (φ : Nat → Nat) : List AOper := [
  ⟨0, .N .mv, [.n 0], none, 0⟩,
  ⟨1, .N (.eqN 1 false), [.l 0, .c (.nils)], none, 0⟩]
def r32_2 (φ : Nat → Nat) : List AOper := [
  ⟨0, .N .mv, [.c (.nils)], none, 0⟩]
def r32_3 (φ : Nat → Nat) : List AOper := [
  ⟨0, .N (.bsl [.int .i64 0, .int .i64 0] 0 2 []), [], none, 0⟩,
  ⟨1, .N .mv, [.n 0], none, 0⟩,
  ⟨2, .X (.app 2 16), [.l 1, .l 0], none, 0⟩,
  ⟨3, .N .mv, [.l 0], none, 0⟩]
def b32 (φ : Nat → Nat) : ACode := .seq (.reg false (r32_0 φ) [(1, 0)]) (.seq (.seq (.reg false (r32_1 φ) [(2, 0)]) (.cond (.n 2) (.seq (.reg false (r32_2 φ) [(1, 0)]) (.ret)) (.skip))) (.seq (.reg false (r32_3 φ) [(1, 0)]) (.ret)))
def f32 (φ : Nat → Nat) : AFn := ⟨1, [0, 2, 4], 8, b32 φ, [.t 1]⟩
/-! 33: slices.Index[[]carcanet/api.Edge,carcanet/api.Edge]: 0:s 1:v 2:v 3: 4:i 5: 6: 7: 8: -/
def r33_0 (φ : Nat → Nat) : List AOper := [
  ⟨0, .N .box, [.n 1], none, 0⟩,
  ⟨1, .N .mv, [.c (.int .i64 0)], none, 0⟩]
def r33_1 (φ : Nat → Nat) : List AOper := [
  ⟨0, .N .mv, [.n 0], none, 0⟩,
  ⟨1, .N .lenS, [.l 0], none, 0⟩,
  ⟨2, .N .mv, [.c (.int .i64 0)], none, 0⟩]
def r33_2 (φ : Nat → Nat) : List AOper := [
  ⟨0, .N (.bin .lss), [.n 6, .n 5], none, 0⟩]
def r33_3 (φ : Nat → Nat) : List AOper := [
  ⟨0, .N .mv, [.n 6], none, 0⟩,
  ⟨1, .N .mv, [.l 0], none, 0⟩]
def r33_4 (φ : Nat → Nat) : List AOper := [
  ⟨0, .N (.loadN 2), [.n 2], none, 0⟩,
  ⟨1, .N .mv, [.n 0], none, 0⟩,
  ⟨2, .N .mv, [.n 4], none, 0⟩,
  ⟨3, .N (.idx 2), [.l 1, .l 0], none, 6⟩,
  ⟨4, .N (.loadN 2), [.l 0], none, 14⟩,
  ⟨5, .N (.eqS [1, 1] false), [.l 4, .l 0], none, 31⟩]
def r33_5 (φ : Nat → Nat) : List AOper := [
  ⟨0, .N .mv, [.n 4], none, 0⟩,
  ⟨1, .N .mv, [.l 0], none, 0⟩]
def r33_6 (φ : Nat → Nat) : List AOper := [
  ⟨0, .N (.bin .add), [.n 6, .c (.int .i64 1)], none, 0⟩,
  ⟨1, .N .mv, [.l 0], none, 0⟩]
def l33_7 (φ : Nat → Nat) : ACode := .seq (.reg false (r33_2 φ) [(7, 0)]) (.seq (.cond (.n 7) (.skip) (.exit 0)) (.seq (.block 1 (.seq (.reg false (r33_3 φ) [(4, 0)]) (.seq (.reg true (r33_4 φ) [(8, 0)]) (.cond (.n 8) (.seq (.reg false (r33_5 φ) [(3, 0)]) (.ret)) (.skip))))) (.reg false (r33_6 φ) [(6, 0)])))
def r33_8 (φ : Nat → Nat) : List AOper := [
  ⟨0, .N .mv, [.c (.int .i64 (-1))], none, 0⟩]
def b33 (φ : Nat → Nat) : ACode := .seq (.reg false (r33_0 φ) [(2, 1), (3, 0)]) (.seq (.seq (.reg false (r33_1 φ) [(5, 1), (6, 0)]) (.block 0 (.loop (l33_7 φ)))) (.seq (.reg false (r33_8 φ) [(3, 0)]) (.ret)))
def f33 (φ : Nat → Nat) : AFn := ⟨2, [0, 1, 3, 4, 5, 7, 8, 9, 16], 19, b33 φ, [.t 3]⟩
/-! 34: slices.Delete[[]carcanet/api.Edge,carcanet/api.Edge]: 0:s 1:i 2:j 3: 4:oldlen 5: -/
def r34_0 (φ : Nat → Nat) : List AOper := [
  ⟨0, .N .mv, [.c (.nils)], none, 0⟩]
def r34_1 (φ : Nat → Nat) : List AOper := [
  ⟨0, .N .mv, [.n 0], none, 0⟩,
  ⟨1, .N .mv, [.n 1], none, 0⟩,
  ⟨2, .N .mv, [.n 2], none, 0⟩,
  ⟨3, .N .mv, [.n 0], none, 0⟩,
  ⟨4, .N .lenS, [.l 0], none, 0⟩,
  ⟨5, .N (.slc 2 true true true), [.l 4, .l 3, .l 2, .l 0], none, 0⟩]
def r34_2 (φ : Nat → Nat) : List AOper := [
  ⟨0, .N .mv, [.n 1], none, 0⟩,
  ⟨1, .N .mv, [.n 2], none, 0⟩,
  ⟨2, .N (.bin .eql), [.l 1, .l 0], none, 0⟩]
def r34_3 (φ : Nat → Nat) : List AOper := [
  ⟨0, .N .mv, [.n 0], none, 0⟩,
  ⟨1, .N .mv, [.l 0], none, 0⟩]
def r34_4 (φ : Nat → Nat) : List AOper := [
  ⟨0, .N .mv, [.n 0], none, 0⟩,
  ⟨1, .N .lenS, [.l 0], none, 0⟩,
  ⟨2, .N .mv, [.l 0], none, 0⟩]
def r34_5 (φ : Nat → Nat) : List AOper := [
  ⟨0, .N .mv, [.n 0], none, 0⟩,
  ⟨1, .N .mv, [.n 1], none, 0⟩,
  ⟨2, .N (.slc 2 false true false), [.l 1, .l 0], none, 3⟩,
  ⟨3, .N .mv, [.n 0], none, 0⟩,
  ⟨4, .N .mv, [.n 2], none, 0⟩,
  ⟨5, .N (.slc 2 true false false), [.l 1, .l 0], none, 24⟩,
  ⟨6, .X (.app 2 16), [.l 3, .l 0], none, 63⟩,
  ⟨7, .N .mv, [.l 0], none, 127⟩]
def r34_6 (φ : Nat → Nat) : List AOper := [
  ⟨0, .N .mv, [.n 0], none, 0⟩,
  ⟨1, .N .mv, [.n 0], none, 0⟩,
  ⟨2, .N .lenS, [.l 0], none, 0⟩,
  ⟨3, .N .mv, [.n 4], none, 0⟩,
  ⟨4, .N (.slc 2 true true false), [.l 3, .l 1, .l 0], none, 0⟩,
  ⟨5, .X (.clear 2 [.int .i64 0, .int .i64 0]), [.l 0], none, 0⟩]
def r34_7 (φ : Nat → Nat) : List AOper := [
  ⟨0, .N .mv, [.n 0], none, 0⟩,
  ⟨1, .N .mv, [.l 0], none, 0⟩]
def b34 (φ : Nat → Nat) : ACode := .seq (.reg false (r34_0 φ) [(3, 0)]) (.seq (.reg false (r34_1 φ) []) (.seq (.seq (.reg false (r34_2 φ) [(5, 0)]) (.cond (.n 5) (.seq (.reg false (r34_3 φ) [(3, 0)]) (.ret)) (.skip))) (.seq (.reg false (r34_4 φ) [(4, 0)]) (.seq (.reg true (r34_5 φ) [(0, 0)]) (.seq (.reg false (r34_6 φ) []) (.seq (.reg false (r34_7 φ) [(3, 0)]) (.ret)))))))
def f34 (φ : Nat → Nat) : AFn := ⟨3, [0, 1, 2, 6, 7, 16], 33, b34 φ, [.t 3]⟩
end Go.Ai.G
/- Rows as values: what is read of them, and what is frozen then. -/
namespace Go.Ai
set_option linter.unusedVariables false
set_option linter.unusedSimpArgs false
/-- A slice that reads as this row, whoever may write it. -/
def Vw (nl : Bool) (H : Heap) (v : AV) (sz n : Nat) (c : List AV) : Prop :=
  (n = 0 ∧ c = [] ∧ if nl = true then v = .nils else ∃ b g o, v = .sl b g o 0 sz 0 true) ∨ (0 < n ∧ ∃ b g cl ex ro, v = .sl b g 0 n sz cl ex ∧ c.length = n * sz ∧ H[b]? = some (.cells g ro c))
variable {nl : Bool} {P : Nat} {H : Heap} {v : AV} {sz n : Nat} {c : List AV}
theorem Own.vw (h : Own nl P H v sz n c) : Vw nl H v sz n c := by
  rcases h with h | ⟨h0, b, g, ex, rfl, _, h1, h2⟩
  · exact .inl h
  · exact .inr ⟨h0, b, g, n, ex, false, rfl, h1, h2⟩
/-- The memory, this row frozen. -/
def frzOf (H : Heap) (v : AV) : Heap := match blkOf v with
  | none => H
  | some b => frzH [b] H
theorem frzOf_len (H : Heap) (v : AV) : (frzOf H v).length = H.length := by
  unfold frzOf
  split
  · rfl
  · exact frzH_len _ _
theorem frzOf_get (H : Heap) (v : AV) {b : Nat} (hb : blkOf v ≠ some b) : (frzOf H v)[b]? = H[b]? := by
  unfold frzOf
  split
  · rfl
  · rename_i b' he
    simp only [frzH]
    split
    · exact List.getElem?_set_ne (fun e => hb (by rw [he, e]))
    · rfl
theorem Vw.reach (h : Vw nl H v sz n c) (hc : AV.closeds c = true) (k : Nat) : reachV H (k + 1) v = (blkOf v).toList := by
  rcases h with ⟨rfl, rfl, h⟩ | ⟨h0, b, g, cl, ex, ro, rfl, h1, h2⟩
  · cases nl
    · obtain ⟨b, g, o, rfl⟩ := h
      rw [reachV_sl0]; simp [blkOf]
    · have : v = .nils := h
      subst this
      rw [reachV_closed _ rfl]; rfl
  · rw [reachV_sl _ _ _ _ _ _ _ _ _ _ _ h2 (by omega) hc]
    simp only [blkOf]; rw [if_neg (by omega)]; rfl
theorem frzH_toList (H : Heap) (v : AV) : frzH (blkOf v).toList H = frzOf H v := by
  unfold frzOf
  cases blkOf v <;> rfl
theorem Vw.frz (h : Vw nl H v sz n c) : Vw nl (frzOf H v) v sz n c ∧ frzOf (frzOf H v) v = frzOf H v ∧ ∀ b g o cl ex, v = .sl b g o n sz cl ex → 0 < n → (frzOf H v)[b]? = some (.cells g true c) := by
  rcases h with h | ⟨h0, b, g, cl, ex, ro, rfl, h1, h2⟩
  · obtain ⟨rfl, rfl, h⟩ := h
    refine ⟨.inl ⟨rfl, rfl, h⟩, ?_, fun _ _ _ _ _ _ h => by omega⟩
    have : blkOf v = none := by
      cases nl
      · obtain ⟨b, g, o, rfl⟩ := h; simp [blkOf]
      · have : v = .nils := h
        subst this; rfl
    unfold frzOf; rw [this]
  · have hb : blkOf (.sl b g 0 n sz cl ex) = some b := by simp only [blkOf]; rw [if_neg (by omega)]
    have hf : (frzOf H (.sl b g 0 n sz cl ex))[b]? = some (.cells g true c) := by
      unfold frzOf
      rw [hb]
      cases ro
      · simp only [frzH_cons _ _ _ _ h2, frzH_nil]; exact List.getElem?_set_self (lt_of_get h2)
      · simp only [frzH_ro _ _ _ _ h2, frzH_nil]; exact h2
    refine ⟨.inr ⟨h0, b, g, cl, ex, true, rfl, h1, hf⟩, ?_, fun b' g' o' cl' ex' e _ => by cases e; exact hf⟩
    have e : ∀ K : Heap, frzOf K (.sl b g 0 n sz cl ex) = frzH [b] K := by intro K; unfold frzOf; rw [hb]
    rw [e (frzOf H _), frzH_ro _ _ _ _ hf, frzH_nil]
theorem Vw.seen (h : Vw nl H v sz n c) (hc : AV.closeds c = true) (k : Nat) : viewV (frzOf H v) (k + 2) v = some (rv nl n sz c) := by
  obtain ⟨_, _, hf⟩ := h.frz
  rcases h with ⟨rfl, rfl, h⟩ | ⟨h0, b, g, cl, ex, ro, rfl, h1, h2⟩
  · cases nl
    · obtain ⟨b, g, o, rfl⟩ := h
      rw [viewV_sl0]; simp [rv]
    · have : v = .nils := h
      subst this
      rw [viewV_closed _ rfl]; simp [rv]
  · have hb := hf b g 0 cl ex rfl h0
    rw [viewV_sl (c := c) _ _ _ _ _ _ _ _ hb (by omega) (by omega) hc]
    simp [rv, show ¬ n = 0 by omega, ← h1]
theorem reachL_mid {x : AV} {post : List AV} (h2 : AV.closeds post = true) (k : Nat) : ∀ (l : List AV), AV.closeds l = true → reachL H (k + 2) (l ++ x :: post) = reachV H (k + 1) x
  | [], _ => by rw [List.nil_append, reachL_cons, reachL_closed _ h2, List.append_nil]
  | y :: l, hl => by
    simp only [closeds_cons, Bool.and_eq_true] at hl
    rw [List.cons_append, reachL_cons, reachL_mid h2 k l hl.2, reachV_closed _ hl.1, List.nil_append]
theorem viewL_mid {x r : AV} {post : List AV} (h2 : AV.closeds post = true) (k : Nat) (hr : viewV H (k + 1) x = some r) : ∀ (l : List AV), AV.closeds l = true → viewL H (k + 2) (l ++ x :: post) = some (l ++ r :: post)
  | [], _ => by rw [List.nil_append, viewL_cons, hr, viewL_closed _ h2]; rfl
  | y :: l, hl => by
    simp only [closeds_cons, Bool.and_eq_true] at hl
    rw [List.cons_append, viewL_cons, viewL_mid h2 k hr l hl.2, viewV_closed _ hl.1]; rfl
/-- As an argument. -/
theorem Vw.va (h : Vw nl H v sz n c) (hc : AV.closeds c = true) (pre post : List AV) (h1 : AV.closeds pre = true) (h2 : AV.closeds post = true) : viewA H (pre ++ v :: post) = some (pre ++ rv nl n sz c :: post, frzOf H v) := by
  rw [viewA_def]
  rw [show fuelV = 10 + 2 from rfl, reachL_mid h2 10 pre h1, h.reach hc, frzH_toList, viewL_mid h2 10 (h.seen hc 9) pre h1]
  rfl
/-- As a part of a struct that is an argument. -/
theorem Vw.vag (h : Vw nl H v sz n c) (hc : AV.closeds c = true) (pre post p q : List AV) (h1 : AV.closeds pre = true) (h2 : AV.closeds post = true) (h3 : AV.closeds p = true) (h4 : AV.closeds q = true) :
    viewA H (p ++ .agg (pre ++ v :: post) :: q) = some (p ++ .agg (pre ++ rv nl n sz c :: post) :: q, frzOf H v) := by
  rw [viewA_def]
  rw [show fuelV = 10 + 2 from rfl, reachL_mid h4 10 p h3, reachV_agg, show (10 : Nat) = 8 + 2 from rfl, reachL_mid h2 8 pre h1, h.reach hc, frzH_toList]
  rw [viewL_mid (r := .agg (pre ++ rv nl n sz c :: post)) h4 (8 + 2) (by rw [show (8 + 2 + 1 : Nat) = 9 + 2 from rfl, viewV_agg, show (9 + 1 : Nat) = 8 + 2 from rfl, viewL_mid h2 8 (h.seen hc 7) pre h1]; rfl) p h3]
  rfl
/-- As an answer. -/
theorem Vw.vr (h : Vw nl H v sz n c) (hc : AV.closeds c = true) : viewR H v = some (rv nl n sz c) := by
  rw [viewR_def]
  rw [show fuelV = 11 + 1 from rfl, h.reach hc, frzH_toList, show (11 + 1 : Nat) = 10 + 2 from rfl, h.seen hc]
/-- A graph as an argument. -/
theorem Vw.g1 (h : Vw nl H v sz n c) (hc : AV.closeds c = true) (k : Int) : viewA H [.agg [.int .i64 k, v]] = some ([.agg [.int .i64 k, rv nl n sz c]], frzOf H v) := h.vag hc [.int .i64 k] [] [] [] rfl rfl rfl rfl
theorem Vw.g2 (h : Vw nl H v sz n c) (hc : AV.closeds c = true) (k : Int) (x : AV) (hx : x.closed = true) : viewA H [.agg [.int .i64 k, v], x] = some ([.agg [.int .i64 k, rv nl n sz c], x], frzOf H v) := h.vag hc [.int .i64 k] [] [] [x] rfl rfl rfl (by rw [closeds_cons, hx]; rfl)
theorem Vw.g3 (h : Vw nl H v sz n c) (hc : AV.closeds c = true) (k : Int) (x y : AV) (hx : x.closed = true) (hy : y.closed = true) : viewA H [.agg [.int .i64 k, v], x, y] = some ([.agg [.int .i64 k, rv nl n sz c], x, y], frzOf H v) := h.vag hc [.int .i64 k] [] [] [x, y] rfl rfl rfl (by rw [closeds_cons, closeds_cons, hx, hy]; rfl)
theorem Vw.l1 (h : Vw nl H v sz n c) (hc : AV.closeds c = true) : viewA H [v] = some ([rv nl n sz c], frzOf H v) := h.va hc [] [] rfl rfl
theorem Vw.l2 (h : Vw nl H v sz n c) (hc : AV.closeds c = true) (x : AV) (hx : x.closed = true) : viewA H [v, x] = some ([rv nl n sz c, x], frzOf H v) := h.va hc [] [x] rfl (by rw [closeds_cons, hx]; rfl)
theorem Vw.r2 (h : Vw nl H v sz n c) (hc : AV.closeds c = true) (x : AV) (hx : x.closed = true) : viewA H [x, v] = some ([x, rv nl n sz c], frzOf H v) := h.va hc [x] [] (by rw [closeds_cons, hx]; rfl) rfl
theorem Vw.one (h : Vw nl H v sz n c) : v.one = true := by
  rcases h with ⟨rfl, rfl, h⟩ | ⟨h0, b, g, cl, ex, ro, rfl, _⟩
  · cases nl
    · obtain ⟨b, g, o, rfl⟩ := h; rfl
    · have : v = .nils := h
      subst this; rfl
  · rfl
theorem Vw.cells (h : Vw nl H v sz n c) : v.cells = [v] := by
  rcases h with ⟨rfl, rfl, h⟩ | ⟨h0, b, g, cl, ex, ro, rfl, _⟩
  · cases nl
    · obtain ⟨b, g, o, rfl⟩ := h; rfl
    · have : v = .nils := h
      subst this; rfl
  · rfl
theorem Vw.len (h : Vw nl H v sz n c) (rd : Nat → Option Ob) : nstep .lenS [v] rd = some (.val (.int .i64 n)) := by
  rcases h with ⟨rfl, rfl, h⟩ | ⟨h0, b, g, cl, ex, ro, rfl, _⟩
  · cases nl
    · obtain ⟨b, g, o, rfl⟩ := h; rfl
    · have : v = .nils := h
      subst this; rfl
  · rfl
theorem Vw.keep {H' : Heap} (h : Vw nl H v sz n c) (hk : ∀ b, blkOf v = some b → H'[b]? = H[b]?) : Vw nl H' v sz n c := by
  rcases h with h | ⟨h0, b, g, cl, ex, ro, rfl, h1, h2⟩
  · exact .inl h
  · exact .inr ⟨h0, b, g, cl, ex, ro, rfl, h1, by rw [hk b (by simp only [blkOf]; rw [if_neg (by omega)])]; exact h2⟩
/-- Where an element lies. -/
theorem Vw.at (h : Vw nl H v sz n c) {i : Nat} (hi : i < n) : ∃ b g ro, (∀ (k : IntKind) rd, nstep (.idx sz) [v, .int k (i : Int)] rd = some (.val (.ptr b g (i * sz)))) ∧ H[b]? = some (.cells g ro c) ∧ blkOf v = some b := by
  rcases h with ⟨rfl, rfl, h⟩ | ⟨h0, b, g, cl, ex, ro, rfl, h1, hb⟩
  · omega
  · refine ⟨b, g, ro, fun k rd => ?_, hb, by simp only [blkOf]; rw [if_neg (by omega)]⟩
    rw [n_idx, if_pos ⟨by omega, by omega⟩]; simp
end Go.Ai
/- Functions of the program (package carcanetlaw03) as code of the abstract machine: written by a program of this session out of the elaborated operations. -/
namespace Go.Ai.G
set_option maxRecDepth 100000
set_option linter.unusedVariables false
/-! 0: carcanet/carcanetlaw03.shown: 0: 1:g 2:e 3:f 4:h 5:k 6:w 7:m 8:d -/
def r0_0 (φ : Nat → Nat) : List AOper := [
  ⟨0, .N .mv, [.c (.bool false)], none, 0⟩]
def r0_1 (φ : Nat → Nat) : List AOper := [
  ⟨0, .N (.build [.int .i64 0, .int .i64 0] [(0, 1), (1, 1)]), [.c (.int .i64 2), .c (.int .i64 1)], none, 0⟩,
  ⟨1, .N (.build [.int .i64 0, .int .i64 0] [(0, 1), (1, 1)]), [.c (.int .i64 0), .c (.int .i64 0)], none, 0⟩,
  ⟨2, .N (.build [.int .i64 0, .int .i64 0] [(0, 1), (1, 1)]), [.c (.int .i64 1), .c (.int .i64 2)], none, 0⟩,
  ⟨3, .N (.build [.int .i64 0, .int .i64 0] [(0, 1), (1, 1)]), [.c (.int .i64 3), .c (.int .i64 0)], none, 0⟩,
  ⟨4, .N (.bsl [.int .i64 0, .int .i64 0] 4 2 [(0, 2), (2, 2), (4, 2), (6, 2)]), [.l 3, .l 2, .l 1, .l 0], none, 0⟩,
  ⟨5, .calli false (φ 1), [.c (.int .i64 4), .l 0], none, 0⟩,
  ⟨6, .N .mv, [.l 0], none, 0⟩,
  ⟨7, .N (.ext 0), [.l 0], none, 0⟩,
  ⟨8, .N (.ext 1), [.l 1], none, 0⟩,
  ⟨9, .N (.alloc [.int .i64 0, .nils]), [], none, 0⟩,
  ⟨10, .X (.store 2), [.l 0, .l 2], none, 0⟩,
  ⟨11, .N .mv, [.l 2], none, 0⟩]
def r0_2 (φ : Nat → Nat) : List AOper := [
  ⟨0, .N (.build [.int .i64 0, .int .i64 0] [(0, 1), (1, 1)]), [.c (.int .i64 0), .c (.int .i64 2)], none, 0⟩,
  ⟨1, .N (.bsl [.int .i64 0, .int .i64 0] 1 2 [(0, 2)]), [.l 0], none, 0⟩,
  ⟨2, .calli false (φ 1), [.c (.int .i64 2), .l 0], none, 0⟩,
  ⟨3, .N .mv, [.l 0], none, 0⟩,
  ⟨4, .N (.ext 0), [.l 0], none, 0⟩,
  ⟨5, .N (.ext 1), [.l 1], none, 0⟩,
  ⟨6, .N (.alloc [.int .i64 0, .nils]), [], none, 0⟩,
  ⟨7, .X (.store 2), [.l 0, .l 2], none, 0⟩,
  ⟨8, .N .mv, [.l 2], none, 0⟩]
def r0_3 (φ : Nat → Nat) : List AOper := [
  ⟨0, .N (.loadN 2), [.n 1], none, 0⟩,
  ⟨1, .calli false (φ 15), [.l 0, .c (.int .i64 1), .c (.int .i64 0)], none, 0⟩,
  ⟨2, .N .mv, [.l 0], none, 0⟩,
  ⟨3, .N (.ext 0), [.l 0], none, 0⟩,
  ⟨4, .N (.ext 1), [.l 1], none, 0⟩,
  ⟨5, .N (.alloc [.int .i64 0, .nils]), [], none, 0⟩,
  ⟨6, .X (.store 2), [.l 0, .l 2], none, 0⟩,
  ⟨7, .N .mv, [.l 2], none, 0⟩]
def r0_4 (φ : Nat → Nat) : List AOper := [
  ⟨0, .N (.loadN 2), [.n 4], none, 0⟩,
  ⟨1, .calli false (φ 17), [.l 0, .c (.int .i64 0), .c (.int .i64 3)], none, 0⟩,
  ⟨2, .N .mv, [.l 0], none, 0⟩,
  ⟨3, .N (.ext 0), [.l 0], none, 0⟩,
  ⟨4, .N (.ext 1), [.l 1], none, 0⟩,
  ⟨5, .N (.alloc [.int .i64 0, .nils]), [], none, 0⟩,
  ⟨6, .X (.store 2), [.l 0, .l 2], none, 0⟩,
  ⟨7, .N .mv, [.l 2], none, 0⟩]
def r0_5 (φ : Nat → Nat) : List AOper := [
  ⟨0, .N (.loadN 2), [.n 4], none, 0⟩,
  ⟨1, .calli false (φ 12), [.l 0], none, 0⟩,
  ⟨2, .N .mv, [.l 0], none, 0⟩]
def r0_6 (φ : Nat → Nat) : List AOper := [
  ⟨0, .N .mv, [.n 2], none, 0⟩,
  ⟨1, .N (.bin .eql), [.l 0, .c (.int .i64 0)], none, 0⟩,
  ⟨2, .N .mv, [.l 0], none, 0⟩,
  ⟨3, .N .mv, [.n 3], some (.l 0, true), 0⟩,
  ⟨4, .N (.bin .eql), [.l 0, .c (.int .i64 4)], some (.l 1, true), 0⟩,
  ⟨5, .N .pick, [.l 2, .l 0, .c (.bool false)], none, 0⟩,
  ⟨6, .N .mv, [.l 0], none, 0⟩,
  ⟨7, .N (.fadd 1), [.n 1], some (.l 0, true), 0⟩,
  ⟨8, .N .load1, [.l 0], some (.l 1, true), 0⟩,
  ⟨9, .N .lenS, [.l 0], some (.l 2, true), 0⟩,
  ⟨10, .N (.bin .eql), [.l 0, .c (.int .i64 2)], some (.l 3, true), 0⟩,
  ⟨11, .N .pick, [.l 4, .l 0, .c (.bool false)], none, 0⟩,
  ⟨12, .N .mv, [.l 0], none, 0⟩,
  ⟨13, .N (.fadd 1), [.n 1], some (.l 0, true), 0⟩,
  ⟨14, .N .load1, [.l 0], some (.l 1, true), 0⟩,
  ⟨15, .N (.idx 2), [.l 0, .c (.int .i64 0)], some (.l 2, true), 0⟩,
  ⟨16, .N (.loadN 2), [.l 0], some (.l 3, true), 0⟩,
  ⟨17, .N (.build [.int .i64 0, .int .i64 0] [(0, 1), (1, 1)]), [.c (.int .i64 0), .c (.int .i64 3)], some (.l 4, true), 0⟩,
  ⟨18, .N (.eqS [1, 1] false), [.l 1, .l 0], some (.l 5, true), 0⟩,
  ⟨19, .N .pick, [.l 6, .l 0, .c (.bool false)], none, 0⟩,
  ⟨20, .N .mv, [.l 0], none, 0⟩,
  ⟨21, .N .mv, [.n 5], some (.l 0, true), 0⟩,
  ⟨22, .N (.bin .eql), [.l 0, .c (.int .i64 0)], some (.l 1, true), 0⟩,
  ⟨23, .N .pick, [.l 2, .l 0, .c (.bool false)], none, 0⟩,
  ⟨24, .N .mv, [.l 0], none, 0⟩,
  ⟨25, .N (.fadd 1), [.n 4], some (.l 0, true), 0⟩,
  ⟨26, .N .load1, [.l 0], some (.l 1, true), 0⟩,
  ⟨27, .N .lenS, [.l 0], some (.l 2, true), 0⟩,
  ⟨28, .N (.bin .eql), [.l 0, .c (.int .i64 3)], some (.l 3, true), 0⟩,
  ⟨29, .N .pick, [.l 4, .l 0, .c (.bool false)], none, 0⟩,
  ⟨30, .N .mv, [.l 0], none, 0⟩,
  ⟨31, .N .mv, [.n 7], some (.l 0, true), 0⟩,
  ⟨32, .N (.bin .eql), [.l 0, .c (.int .i64 0)], some (.l 1, true), 0⟩,
  ⟨33, .N .pick, [.l 2, .l 0, .c (.bool false)], none, 0⟩,
  ⟨34, .N .mv, [.l 0], none, 0⟩,
  ⟨35, .N (.fadd 1), [.n 6], some (.l 0, true), 0⟩,
  ⟨36, .N .load1, [.l 0], some (.l 1, true), 0⟩,
  ⟨37, .N .lenS, [.l 0], some (.l 2, true), 0⟩,
  ⟨38, .N (.bin .eql), [.l 0, .c (.int .i64 2)], some (.l 3, true), 0⟩,
  ⟨39, .N .pick, [.l 4, .l 0, .c (.bool false)], none, 0⟩,
  ⟨40, .N .mv, [.l 0], none, 0⟩,
  ⟨41, .N .mv, [.n 8], some (.l 0, true), 0⟩,
  ⟨42, .N .lenS, [.l 0], some (.l 1, true), 0⟩,
  ⟨43, .N (.bin .eql), [.l 0, .c (.int .i64 4)], some (.l 2, true), 0⟩,
  ⟨44, .N .pick, [.l 3, .l 0, .c (.bool false)], none, 0⟩,
  ⟨45, .N .mv, [.l 0], none, 0⟩,
  ⟨46, .N .mv, [.n 8], some (.l 0, true), 0⟩,
  ⟨47, .N (.idx 1), [.l 0, .c (.int .i64 0)], some (.l 1, true), 0⟩,
  ⟨48, .N .load1, [.l 0], some (.l 2, true), 0⟩,
  ⟨49, .N (.bin .eql), [.l 0, .c (.int .i64 2)], some (.l 3, true), 0⟩,
  ⟨50, .N .pick, [.l 4, .l 0, .c (.bool false)], none, 0⟩,
  ⟨51, .N .mv, [.l 0], none, 0⟩,
  ⟨52, .N .mv, [.n 8], some (.l 0, true), 0⟩,
  ⟨53, .N (.idx 1), [.l 0, .c (.int .i64 3)], some (.l 1, true), 0⟩,
  ⟨54, .N .load1, [.l 0], some (.l 2, true), 0⟩,
  ⟨55, .N (.bin .eql), [.l 0, .c (.int .i64 1)], some (.l 3, true), 0⟩,
  ⟨56, .N .pick, [.l 4, .l 0, .c (.bool false)], none, 0⟩,
  ⟨57, .N .mv, [.l 0], none, 0⟩,
  ⟨58, .N (.loadN 2), [.n 6], some (.l 0, true), 0⟩,
  ⟨59, .calli true (φ 4), [.l 0], some (.l 1, true), 0⟩,
  ⟨60, .N .pick, [.l 2, .l 0, .c (.bool false)], none, 0⟩,
  ⟨61, .N .mv, [.l 0], none, 0⟩,
  ⟨62, .N (.loadN 2), [.n 6], some (.l 0, true), 0⟩,
  ⟨63, .calli true (φ 7), [.l 0, .c (.int .i64 2), .c (.int .i64 1)], some (.l 1, true), 0⟩,
  ⟨64, .N .pick, [.l 2, .l 0, .c (.bool false)], none, 0⟩,
  ⟨65, .N .mv, [.l 0], none, 0⟩,
  ⟨66, .N (.loadN 2), [.n 6], some (.l 0, true), 0⟩,
  ⟨67, .calli true (φ 7), [.l 0, .c (.int .i64 0), .c (.int .i64 3)], some (.l 1, true), 0⟩,
  ⟨68, .N (.un .not), [.l 0], some (.l 2, true), 0⟩,
  ⟨69, .N .pick, [.l 3, .l 0, .c (.bool false)], none, 0⟩,
  ⟨70, .N .mv, [.l 0], none, 0⟩,
  ⟨71, .N (.loadN 2), [.n 6], some (.l 0, true), 0⟩,
  ⟨72, .calli false (φ 9), [.l 0, .c (.int .i64 1)], some (.l 1, true), 0⟩,
  ⟨73, .N .lenS, [.l 0], some (.l 2, true), 0⟩,
  ⟨74, .N (.bin .eql), [.l 0, .c (.int .i64 2)], some (.l 3, true), 0⟩,
  ⟨75, .N .pick, [.l 4, .l 0, .c (.bool false)], none, 0⟩,
  ⟨76, .N .mv, [.l 0], none, 0⟩]
def b0 (φ : Nat → Nat) : ACode := .seq (.reg false (r0_0 φ) [(0, 0)]) (.seq (.reg false (r0_1 φ) [(1, 2), (2, 0)]) (.seq (.reg false (r0_2 φ) [(3, 0)]) (.seq (.reg false (r0_3 φ) [(4, 2), (5, 0)]) (.seq (.reg false (r0_4 φ) [(6, 2), (7, 0)]) (.seq (.reg false (r0_5 φ) [(8, 0)]) (.seq (.reg false (r0_6 φ) [(0, 0)]) (.ret)))))))
def f0 (φ : Nat → Nat) : AFn := ⟨0, [0, 1, 2, 4, 5, 6, 7, 8, 9], 113, b0 φ, [.t 0]⟩
/-! 5: carcanet/carcanetlaw03.GraphNormal: 0:n 1:l 2: 3:head 4:g 5:e 6:h 7:f -/
def r5_0 (φ : Nat → Nat) : List AOper := [
  ⟨0, .N .mv, [.c (.bool false)], none, 0⟩]
def r5_1 (φ : Nat → Nat) : List AOper := [
  ⟨0, .calli true (φ 0), [], none, 0⟩,
  ⟨1, .N .mv, [.l 0], none, 0⟩]
def r5_2 (φ : Nat → Nat) : List AOper := [
  ⟨0, .N .mv, [.n 1], none, 0⟩,
  ⟨1, .N .mv, [.n 1], none, 0⟩,
  ⟨2, .N .lenS, [.l 0], none, 0⟩,
  ⟨3, .N .min, [.l 0, .c (.int .i64 300)], none, 0⟩,
  ⟨4, .N (.slc 2 false true false), [.l 3, .l 0], none, 0⟩,
  ⟨5, .N .mv, [.l 0], none, 0⟩]
def r5_3 (φ : Nat → Nat) : List AOper := [
  ⟨0, .N .mv, [.n 0], none, 0⟩,
  ⟨1, .N .mv, [.n 1], none, 0⟩,
  ⟨2, .calli false (φ 1), [.l 1, .l 0], none, 0⟩,
  ⟨3, .N .mv, [.l 0], none, 0⟩,
  ⟨4, .N (.ext 0), [.l 0], none, 0⟩,
  ⟨5, .N (.ext 1), [.l 1], none, 0⟩,
  ⟨6, .N (.alloc [.int .i64 0, .nils]), [], none, 0⟩,
  ⟨7, .X (.store 2), [.l 0, .l 2], none, 0⟩,
  ⟨8, .N .mv, [.l 2], none, 0⟩]
def r5_4 (φ : Nat → Nat) : List AOper := [
  ⟨0, .N .mv, [.n 0], none, 0⟩,
  ⟨1, .N .mv, [.n 1], none, 0⟩,
  ⟨2, .calli false (φ 2), [.l 1, .l 0], none, 0⟩,
  ⟨3, .N .mv, [.l 0], none, 0⟩,
  ⟨4, .N (.ext 0), [.l 0], none, 0⟩,
  ⟨5, .N (.ext 1), [.l 1], none, 0⟩,
  ⟨6, .N (.alloc [.int .i64 0, .nils]), [], none, 0⟩,
  ⟨7, .X (.store 2), [.l 0, .l 2], none, 0⟩,
  ⟨8, .N .mv, [.l 2], none, 0⟩]
def r5_5 (φ : Nat → Nat) : List AOper := [
  ⟨0, .N .mv, [.n 3], none, 0⟩,
  ⟨1, .N .mv, [.l 0], none, 0⟩,
  ⟨2, .N .mv, [.n 5], some (.l 0, true), 0⟩,
  ⟨3, .N .mv, [.n 7], some (.l 1, true), 0⟩,
  ⟨4, .N (.bin .eql), [.l 1, .l 0], some (.l 2, true), 0⟩,
  ⟨5, .N .pick, [.l 3, .l 0, .c (.bool false)], none, 0⟩,
  ⟨6, .N .mv, [.l 0], none, 0⟩,
  ⟨7, .N (.loadN 2), [.n 4], some (.l 0, true), 0⟩,
  ⟨8, .N (.loadN 2), [.n 6], some (.l 1, true), 0⟩,
  ⟨9, .calli true (φ 3), [.l 1, .l 0], some (.l 2, true), 0⟩,
  ⟨10, .N .pick, [.l 3, .l 0, .c (.bool false)], none, 0⟩,
  ⟨11, .N .mv, [.l 0], none, 0⟩,
  ⟨12, .N .mv, [.n 5], some (.l 0, true), 0⟩,
  ⟨13, .N (.bin .neq), [.l 0, .c (.int .i64 0)], some (.l 1, true), 0⟩,
  ⟨14, .N .mv, [.l 0], some (.l 2, true), 0⟩,
  ⟨15, .N (.loadN 2), [.n 4], some (.l 0, false), 0⟩,
  ⟨16, .calli true (φ 4), [.l 0], some (.l 1, false), 0⟩,
  ⟨17, .N .pick, [.l 2, .c (.bool true), .l 0], some (.l 5, true), 0⟩,
  ⟨18, .N .pick, [.l 6, .l 0, .c (.bool false)], none, 0⟩,
  ⟨19, .N .mv, [.l 0], none, 0⟩]
def b5 (φ : Nat → Nat) : ACode := .seq (.reg false (r5_0 φ) [(2, 0)]) (.seq (.reg false (r5_1 φ) [(3, 0)]) (.seq (.reg false (r5_2 φ) [(1, 0)]) (.seq (.reg false (r5_3 φ) [(4, 2), (5, 0)]) (.seq (.reg false (r5_4 φ) [(6, 2), (7, 0)]) (.seq (.reg false (r5_5 φ) [(2, 0)]) (.ret))))))
def f5 (φ : Nat → Nat) : AFn := ⟨2, [0, 1, 4, 5, 6, 7, 8, 9], 47, b5 φ, [.t 2]⟩
/-! 14: carcanet/carcanetlaw03.GraphRight: 0:g 1:a 2:b 3:g 4: 5:head -/
def r14_0 (φ : Nat → Nat) : List AOper := [
  ⟨0, .N .box, [.n 0], none, 0⟩,
  ⟨1, .N .mv, [.c (.bool false)], none, 0⟩]
def r14_1 (φ : Nat → Nat) : List AOper := [
  ⟨0, .calli true (φ 0), [], none, 0⟩,
  ⟨1, .N .mv, [.l 0], none, 0⟩]
def r14_2 (φ : Nat → Nat) : List AOper := [
  ⟨0, .N (.bsl [.int .i64 0, .int .i64 0] 0 2 []), [], none, 0⟩,
  ⟨1, .N (.fadd 1), [.n 3], none, 0⟩,
  ⟨2, .N .load1, [.l 0], none, 0⟩,
  ⟨3, .N (.fadd 1), [.n 3], none, 0⟩,
  ⟨4, .N .load1, [.l 0], none, 0⟩,
  ⟨5, .N .lenS, [.l 0], none, 0⟩,
  ⟨6, .N .min, [.l 0, .c (.int .i64 500)], none, 0⟩,
  ⟨7, .N (.slc 2 false true false), [.l 4, .l 0], none, 0⟩,
  ⟨8, .X (.app 2 16), [.l 7, .l 0], none, 0⟩,
  ⟨9, .N (.fadd 1), [.n 3], none, 0⟩,
  ⟨10, .X (.store 1), [.l 0, .l 1], none, 0⟩]
def r14_3 (φ : Nat → Nat) : List AOper := [
  ⟨0, .N .mv, [.n 5], none, 0⟩,
  ⟨1, .N .mv, [.l 0], none, 1⟩,
  ⟨2, .N (.loadN 2), [.n 3], some (.l 0, true), 3⟩,
  ⟨4, .N (.loadN 2), [.n 3], some (.l 1, true), 3⟩,
  ⟨3, .calli true (φ 4), [.l 1], some (.l 2, true), 7⟩,
  ⟨5, .calli true (φ 6), [.l 1], some (.l 3, true), 31⟩,
  ⟨6, .N (.eqB false), [.l 1, .l 0], some (.l 4, true), 63⟩,
  ⟨7, .N .pick, [.l 5, .l 0, .c (.bool false)], none, 127⟩,
  ⟨8, .N .mv, [.l 0], none, 255⟩,
  ⟨9, .N (.loadN 2), [.n 3], some (.l 0, true), 511⟩,
  ⟨10, .N .mv, [.n 1], some (.l 1, true), 511⟩,
  ⟨11, .N .mv, [.n 2], some (.l 2, true), 511⟩,
  ⟨13, .N (.loadN 2), [.n 3], some (.l 3, true), 511⟩,
  ⟨14, .N .mv, [.n 1], some (.l 4, true), 511⟩,
  ⟨15, .N .mv, [.n 2], some (.l 5, true), 511⟩,
  ⟨12, .calli true (φ 7), [.l 5, .l 4, .l 3], some (.l 6, true), 4095⟩,
  ⟨16, .calli true (φ 8), [.l 3, .l 2, .l 1], some (.l 7, true), 65535⟩,
  ⟨17, .N (.eqB false), [.l 1, .l 0], some (.l 8, true), 131071⟩,
  ⟨18, .N .pick, [.l 9, .l 0, .c (.bool false)], none, 262143⟩,
  ⟨19, .N .mv, [.l 0], none, 524287⟩,
  ⟨20, .N (.loadN 2), [.n 3], some (.l 0, true), 1048575⟩,
  ⟨21, .N .mv, [.n 1], some (.l 1, true), 1048575⟩,
  ⟨23, .N (.loadN 2), [.n 3], some (.l 2, true), 1048575⟩,
  ⟨24, .N .mv, [.n 1], some (.l 3, true), 1048575⟩,
  ⟨22, .calli false (φ 9), [.l 3, .l 2], some (.l 4, true), 4194303⟩,
  ⟨25, .calli false (φ 10), [.l 2, .l 1], some (.l 5, true), 33554431⟩,
  ⟨26, .calli true (φ 11), [.l 1, .l 0], some (.l 6, true), 67108863⟩,
  ⟨27, .N .pick, [.l 7, .l 0, .c (.bool false)], none, 134217727⟩,
  ⟨28, .N .mv, [.l 0], none, 268435455⟩,
  ⟨29, .N (.loadN 2), [.n 3], some (.l 0, true), 536870911⟩,
  ⟨31, .N (.loadN 2), [.n 3], some (.l 1, true), 536870911⟩,
  ⟨30, .calli false (φ 12), [.l 1], some (.l 2, true), 1073741823⟩,
  ⟨32, .calli false (φ 13), [.l 1], some (.l 3, true), 4294967295⟩,
  ⟨33, .calli true (φ 11), [.l 1, .l 0], some (.l 4, true), 8589934591⟩,
  ⟨34, .N .pick, [.l 5, .l 0, .c (.bool false)], none, 17179869183⟩,
  ⟨35, .N .mv, [.l 0], none, 34359738367⟩]
def b14 (φ : Nat → Nat) : ACode := .seq (.reg false (r14_0 φ) [(3, 1), (4, 0)]) (.seq (.reg false (r14_1 φ) [(5, 0)]) (.seq (.reg false (r14_2 φ) []) (.seq (.reg true (r14_3 φ) [(4, 0)]) (.ret))))
def f14 (φ : Nat → Nat) : AFn := ⟨3, [0, 1, 2, 3, 6, 7], 54, b14 φ, [.t 4]⟩
/-! 19: carcanet/carcanetlaw03.GraphAdds: 0:g 1:a 2:b 3:g 4: 5:head 6:x 7:e 8:y 9:f 10:v 11:d 12:w 13:c -/
def r19_0 (φ : Nat → Nat) : List AOper := [
  ⟨0, .N .box, [.n 0], none, 0⟩,
  ⟨1, .N .mv, [.c (.bool false)], none, 0⟩]
def r19_1 (φ : Nat → Nat) : List AOper := [
  ⟨0, .calli true (φ 0), [], none, 0⟩,
  ⟨1, .N .mv, [.l 0], none, 0⟩]
def r19_2 (φ : Nat → Nat) : List AOper := [
  ⟨0, .N (.bsl [.int .i64 0, .int .i64 0] 0 2 []), [], none, 0⟩,
  ⟨1, .N (.fadd 1), [.n 3], none, 0⟩,
  ⟨2, .N .load1, [.l 0], none, 0⟩,
  ⟨3, .N (.fadd 1), [.n 3], none, 0⟩,
  ⟨4, .N .load1, [.l 0], none, 0⟩,
  ⟨5, .N .lenS, [.l 0], none, 0⟩,
  ⟨6, .N .min, [.l 0, .c (.int .i64 500)], none, 0⟩,
  ⟨7, .N (.slc 2 false true false), [.l 4, .l 0], none, 0⟩,
  ⟨8, .X (.app 2 16), [.l 7, .l 0], none, 0⟩,
  ⟨9, .N (.fadd 1), [.n 3], none, 0⟩,
  ⟨10, .X (.store 1), [.l 0, .l 1], none, 0⟩]
def r19_3 (φ : Nat → Nat) : List AOper := [
  ⟨0, .N (.loadN 2), [.n 3], none, 0⟩,
  ⟨1, .N .mv, [.n 1], none, 0⟩,
  ⟨2, .N .mv, [.n 2], none, 0⟩,
  ⟨3, .calli false (φ 15), [.l 2, .l 1, .l 0], none, 0⟩,
  ⟨4, .N .mv, [.l 0], none, 0⟩,
  ⟨5, .N (.ext 0), [.l 0], none, 0⟩,
  ⟨6, .N (.ext 1), [.l 1], none, 0⟩,
  ⟨7, .N (.alloc [.int .i64 0, .nils]), [], none, 0⟩,
  ⟨8, .X (.store 2), [.l 0, .l 2], none, 0⟩,
  ⟨9, .N .mv, [.l 2], none, 0⟩]
def r19_4 (φ : Nat → Nat) : List AOper := [
  ⟨0, .N (.loadN 2), [.n 3], none, 0⟩,
  ⟨1, .N .mv, [.n 1], none, 0⟩,
  ⟨2, .N .mv, [.n 2], none, 0⟩,
  ⟨3, .calli false (φ 16), [.l 2, .l 1, .l 0], none, 0⟩,
  ⟨4, .N .mv, [.l 0], none, 0⟩,
  ⟨5, .N (.ext 0), [.l 0], none, 0⟩,
  ⟨6, .N (.ext 1), [.l 1], none, 0⟩,
  ⟨7, .N (.alloc [.int .i64 0, .nils]), [], none, 0⟩,
  ⟨8, .X (.store 2), [.l 0, .l 2], none, 0⟩,
  ⟨9, .N .mv, [.l 2], none, 0⟩]
def r19_5 (φ : Nat → Nat) : List AOper := [
  ⟨0, .N (.loadN 2), [.n 3], none, 0⟩,
  ⟨1, .N .mv, [.n 1], none, 0⟩,
  ⟨2, .N .mv, [.n 2], none, 0⟩,
  ⟨3, .calli false (φ 17), [.l 2, .l 1, .l 0], none, 0⟩,
  ⟨4, .N .mv, [.l 0], none, 0⟩,
  ⟨5, .N (.ext 0), [.l 0], none, 0⟩,
  ⟨6, .N (.ext 1), [.l 1], none, 0⟩,
  ⟨7, .N (.alloc [.int .i64 0, .nils]), [], none, 0⟩,
  ⟨8, .X (.store 2), [.l 0, .l 2], none, 0⟩,
  ⟨9, .N .mv, [.l 2], none, 0⟩]
def r19_6 (φ : Nat → Nat) : List AOper := [
  ⟨0, .N (.loadN 2), [.n 3], none, 0⟩,
  ⟨1, .N .mv, [.n 1], none, 0⟩,
  ⟨2, .N .mv, [.n 2], none, 0⟩,
  ⟨3, .calli false (φ 18), [.l 2, .l 1, .l 0], none, 0⟩,
  ⟨4, .N .mv, [.l 0], none, 0⟩,
  ⟨5, .N (.ext 0), [.l 0], none, 0⟩,
  ⟨6, .N (.ext 1), [.l 1], none, 0⟩,
  ⟨7, .N (.alloc [.int .i64 0, .nils]), [], none, 0⟩,
  ⟨8, .X (.store 2), [.l 0, .l 2], none, 0⟩,
  ⟨9, .N .mv, [.l 2], none, 0⟩]
def r19_7 (φ : Nat → Nat) : List AOper := [
  ⟨0, .N .mv, [.n 5], none, 0⟩,
  ⟨1, .N .mv, [.l 0], none, 0⟩,
  ⟨2, .N .mv, [.n 7], some (.l 0, true), 0⟩,
  ⟨3, .N .mv, [.n 9], some (.l 1, true), 0⟩,
  ⟨4, .N (.bin .eql), [.l 1, .l 0], some (.l 2, true), 0⟩,
  ⟨5, .N .pick, [.l 3, .l 0, .c (.bool false)], none, 0⟩,
  ⟨6, .N .mv, [.l 0], none, 0⟩,
  ⟨7, .N .mv, [.n 11], some (.l 0, true), 0⟩,
  ⟨8, .N .mv, [.n 13], some (.l 1, true), 0⟩,
  ⟨9, .N (.bin .eql), [.l 1, .l 0], some (.l 2, true), 0⟩,
  ⟨10, .N .pick, [.l 3, .l 0, .c (.bool false)], none, 0⟩,
  ⟨11, .N .mv, [.l 0], none, 0⟩,
  ⟨12, .N (.loadN 2), [.n 6], some (.l 0, true), 0⟩,
  ⟨13, .N (.loadN 2), [.n 8], some (.l 1, true), 0⟩,
  ⟨14, .calli true (φ 3), [.l 1, .l 0], some (.l 2, true), 0⟩,
  ⟨15, .N .pick, [.l 3, .l 0, .c (.bool false)], none, 0⟩,
  ⟨16, .N .mv, [.l 0], none, 0⟩,
  ⟨17, .N (.loadN 2), [.n 10], some (.l 0, true), 0⟩,
  ⟨18, .N (.loadN 2), [.n 12], some (.l 1, true), 0⟩,
  ⟨19, .calli true (φ 3), [.l 1, .l 0], some (.l 2, true), 0⟩,
  ⟨20, .N .pick, [.l 3, .l 0, .c (.bool false)], none, 0⟩,
  ⟨21, .N .mv, [.l 0], none, 0⟩]
def b19 (φ : Nat → Nat) : ACode := .seq (.reg false (r19_0 φ) [(3, 1), (4, 0)]) (.seq (.reg false (r19_1 φ) [(5, 0)]) (.seq (.reg false (r19_2 φ) []) (.seq (.reg false (r19_3 φ) [(6, 2), (7, 0)]) (.seq (.reg false (r19_4 φ) [(8, 2), (9, 0)]) (.seq (.reg false (r19_5 φ) [(10, 2), (11, 0)]) (.seq (.reg false (r19_6 φ) [(12, 2), (13, 0)]) (.seq (.reg false (r19_7 φ) [(4, 0)]) (.ret))))))))
def f19 (φ : Nat → Nat) : AFn := ⟨3, [0, 1, 2, 3, 6, 7, 8, 9, 10, 11, 12, 13, 14, 15], 76, b19 φ, [.t 4]⟩
/-! 20: carcanet/carcanetlaw03.GraphSet: 0:n 1:l 2: 3:head 4:told 5:i 6:g 7:e 8:pairs 9:i 10:a 11:b 12: 13: 14: 15: 16: 17: 18: -/
def r20_0 (φ : Nat → Nat) : List AOper := [
  ⟨0, .N .mv, [.c (.bool false)], none, 0⟩]
def r20_1 (φ : Nat → Nat) : List AOper := [
  ⟨0, .calli true (φ 0), [], none, 0⟩,
  ⟨1, .N .mv, [.l 0], none, 0⟩]
def r20_2 (φ : Nat → Nat) : List AOper := [
  ⟨0, .N .mv, [.n 0], none, 0⟩,
  ⟨1, .N (.bin .and), [.l 0, .c (.int .i64 65535)], none, 0⟩,
  ⟨2, .N (.bin .rem), [.l 0, .c (.int .i64 31)], none, 0⟩,
  ⟨3, .N .mv, [.l 0], none, 0⟩]
def r20_3 (φ : Nat → Nat) : List AOper := [
  ⟨0, .N .mv, [.c (.nils)], none, 0⟩]
def r20_4 (φ : Nat → Nat) : List AOper := [
  ⟨0, .N .mv, [.c (.int .i64 0)], none, 0⟩]
def r20_5 (φ : Nat → Nat) : List AOper := [
  ⟨0, .N .mv, [.n 5], none, 0⟩,
  ⟨1, .N .mv, [.n 1], none, 0⟩,
  ⟨2, .N .lenS, [.l 0], none, 0⟩,
  ⟨3, .N (.bin .lss), [.l 2, .l 0], none, 0⟩,
  ⟨4, .N .mv, [.l 0], none, 0⟩,
  ⟨5, .N .mv, [.n 5], some (.l 0, true), 0⟩,
  ⟨6, .N (.bin .lss), [.l 0, .c (.int .i64 300)], some (.l 1, true), 0⟩,
  ⟨7, .N .pick, [.l 2, .l 0, .c (.bool false)], none, 0⟩,
  ⟨8, .N .mv, [.l 0], none, 0⟩,
  ⟨9, .N .mv, [.n 0], some (.l 0, true), 0⟩,
  ⟨10, .N (.bin .gtr), [.l 0, .c (.int .i64 0)], some (.l 1, true), 0⟩,
  ⟨11, .N .pick, [.l 2, .l 0, .c (.bool false)], none, 0⟩]
def r20_6 (φ : Nat → Nat) : List AOper := [
  ⟨0, .N .mv, [.n 4], none, 0⟩,
  ⟨1, .N .mv, [.n 1], none, 0⟩,
  ⟨2, .N .mv, [.n 5], none, 0⟩,
  ⟨3, .N (.idx 2), [.l 1, .l 0], none, 6⟩,
  ⟨4, .N (.fadd 0), [.l 0], none, 14⟩,
  ⟨5, .N .load1, [.l 0], none, 30⟩,
  ⟨6, .N (.bin .and), [.l 0, .c (.int .i64 65535)], none, 62⟩,
  ⟨7, .N .mv, [.n 0], none, 0⟩,
  ⟨8, .N (.bin .rem), [.l 1, .l 0], none, 254⟩,
  ⟨9, .N .mv, [.n 1], none, 0⟩,
  ⟨10, .N .mv, [.n 5], none, 0⟩,
  ⟨11, .N (.idx 2), [.l 1, .l 0], none, 1536⟩,
  ⟨12, .N (.fadd 1), [.l 0], none, 3584⟩,
  ⟨13, .N .load1, [.l 0], none, 7680⟩,
  ⟨14, .N (.bin .and), [.l 0, .c (.int .i64 65535)], none, 15872⟩,
  ⟨15, .N .mv, [.n 0], none, 0⟩,
  ⟨16, .N (.bin .rem), [.l 1, .l 0], none, 65024⟩,
  ⟨17, .N (.build [.int .i64 0, .int .i64 0] [(0, 1), (1, 1)]), [.l 8, .l 0], none, 131070⟩,
  ⟨18, .N (.bsl [.int .i64 0, .int .i64 0] 1 2 [(0, 2)]), [.l 0], none, 262142⟩,
  ⟨19, .X (.app 2 16), [.l 18, .l 0], none, 524287⟩,
  ⟨20, .N .mv, [.l 0], none, 1048575⟩]
def r20_7 (φ : Nat → Nat) : List AOper := [
  ⟨0, .N .mv, [.n 5], none, 0⟩,
  ⟨1, .N (.bin .add), [.l 0, .c (.int .i64 1)], none, 0⟩,
  ⟨2, .N .mv, [.l 0], none, 0⟩]
def l20_8 (φ : Nat → Nat) : ACode := .seq (.seq (.reg false (r20_5 φ) [(12, 0)]) (.cond (.n 12) (.skip) (.exit 0))) (.seq (.block 1 (.reg true (r20_6 φ) [(4, 0)])) (.reg false (r20_7 φ) [(5, 0)]))
def r20_9 (φ : Nat → Nat) : List AOper := [
  ⟨0, .N .mv, [.n 0], none, 0⟩,
  ⟨1, .N .mv, [.n 4], none, 0⟩,
  ⟨2, .calli false (φ 1), [.l 1, .l 0], none, 0⟩,
  ⟨3, .N .mv, [.l 0], none, 0⟩,
  ⟨4, .N (.ext 0), [.l 0], none, 0⟩,
  ⟨5, .N (.ext 1), [.l 1], none, 0⟩,
  ⟨6, .N (.alloc [.int .i64 0, .nils]), [], none, 0⟩,
  ⟨7, .X (.store 2), [.l 0, .l 2], none, 0⟩,
  ⟨8, .N .mv, [.l 2], none, 0⟩]
def r20_10 (φ : Nat → Nat) : List AOper := [
  ⟨0, .N .mv, [.n 7], none, 0⟩,
  ⟨1, .N (.bin .neq), [.l 0, .c (.int .i64 0)], none, 0⟩,
  ⟨2, .N .mv, [.l 0], none, 0⟩,
  ⟨3, .N (.fadd 0), [.n 6], some (.l 0, false), 0⟩,
  ⟨4, .N .load1, [.l 0], some (.l 1, false), 0⟩,
  ⟨5, .N .mv, [.n 0], some (.l 2, false), 0⟩,
  ⟨6, .N (.bin .neq), [.l 1, .l 0], some (.l 3, false), 0⟩,
  ⟨7, .N .pick, [.l 4, .c (.bool true), .l 0], none, 0⟩]
def r20_11 (φ : Nat → Nat) : List AOper := [
  ⟨0, .N .mv, [.c (.bool false)], none, 0⟩]
def r20_12 (φ : Nat → Nat) : List AOper := [
  ⟨0, .N .mv, [.n 0], none, 0⟩,
  ⟨1, .N .mv, [.n 0], none, 0⟩,
  ⟨2, .N (.bin .mul), [.l 1, .l 0], none, 0⟩,
  ⟨3, .N (.mksl [.bool false] 1 1), [.l 0, .l 0], none, 0⟩,
  ⟨4, .N .mv, [.l 0], none, 0⟩]
def r20_13 (φ : Nat → Nat) : List AOper := [
  ⟨0, .N .mv, [.c (.int .i64 0)], none, 0⟩]
def r20_14 (φ : Nat → Nat) : List AOper := [
  ⟨0, .N .mv, [.n 9], none, 0⟩,
  ⟨1, .N .mv, [.n 4], none, 0⟩,
  ⟨2, .N .lenS, [.l 0], none, 0⟩,
  ⟨3, .N (.bin .lss), [.l 2, .l 0], none, 0⟩]
def r20_15 (φ : Nat → Nat) : List AOper := [
  ⟨0, .N .mv, [.n 4], none, 0⟩,
  ⟨1, .N .mv, [.n 9], none, 0⟩,
  ⟨2, .N (.idx 2), [.l 1, .l 0], none, 3⟩,
  ⟨3, .N (.fadd 0), [.l 0], none, 7⟩,
  ⟨4, .N .load1, [.l 0], none, 15⟩,
  ⟨5, .N .mv, [.n 4], none, 0⟩,
  ⟨6, .N .mv, [.n 9], none, 0⟩,
  ⟨7, .N (.idx 2), [.l 1, .l 0], none, 96⟩,
  ⟨8, .N (.fadd 1), [.l 0], none, 224⟩,
  ⟨9, .N .load1, [.l 0], none, 480⟩,
  ⟨10, .N (.bin .neq), [.l 5, .l 0], none, 1023⟩]
def r20_16 (φ : Nat → Nat) : List AOper := [
  ⟨0, .N .mv, [.n 8], none, 0⟩,
  ⟨1, .N .mv, [.n 4], none, 0⟩,
  ⟨2, .N .mv, [.n 9], none, 0⟩,
  ⟨3, .N (.idx 2), [.l 1, .l 0], none, 6⟩,
  ⟨4, .N (.fadd 0), [.l 0], none, 14⟩,
  ⟨5, .N .load1, [.l 0], none, 30⟩,
  ⟨6, .N .mv, [.n 0], none, 0⟩,
  ⟨7, .N (.bin .mul), [.l 1, .l 0], none, 126⟩,
  ⟨8, .N .mv, [.n 4], none, 0⟩,
  ⟨9, .N .mv, [.n 9], none, 0⟩,
  ⟨10, .N (.idx 2), [.l 1, .l 0], none, 768⟩,
  ⟨11, .N (.fadd 1), [.l 0], none, 1792⟩,
  ⟨12, .N .load1, [.l 0], none, 3840⟩,
  ⟨13, .N (.bin .add), [.l 5, .l 0], none, 8190⟩,
  ⟨14, .N (.idx 1), [.l 13, .l 0], none, 16383⟩,
  ⟨15, .X (.store 1), [.l 0, .c (.bool true)], none, 32767⟩]
def r20_17 (φ : Nat → Nat) : List AOper := [
  ⟨0, .N .mv, [.n 8], none, 0⟩,
  ⟨1, .N .mv, [.n 4], none, 0⟩,
  ⟨2, .N .mv, [.n 9], none, 0⟩,
  ⟨3, .N (.idx 2), [.l 1, .l 0], none, 6⟩,
  ⟨4, .N (.fadd 1), [.l 0], none, 14⟩,
  ⟨5, .N .load1, [.l 0], none, 30⟩,
  ⟨6, .N .mv, [.n 0], none, 0⟩,
  ⟨7, .N (.bin .mul), [.l 1, .l 0], none, 126⟩,
  ⟨8, .N .mv, [.n 4], none, 0⟩,
  ⟨9, .N .mv, [.n 9], none, 0⟩,
  ⟨10, .N (.idx 2), [.l 1, .l 0], none, 768⟩,
  ⟨11, .N (.fadd 0), [.l 0], none, 1792⟩,
  ⟨12, .N .load1, [.l 0], none, 3840⟩,
  ⟨13, .N (.bin .add), [.l 5, .l 0], none, 8190⟩,
  ⟨14, .N (.idx 1), [.l 13, .l 0], none, 16383⟩,
  ⟨15, .X (.store 1), [.l 0, .c (.bool true)], none, 32767⟩]
def r20_18 (φ : Nat → Nat) : List AOper := [
  ⟨0, .N .mv, [.n 9], none, 0⟩,
  ⟨1, .N (.bin .add), [.l 0, .c (.int .i64 1)], none, 0⟩,
  ⟨2, .N .mv, [.l 0], none, 0⟩]
def l20_19 (φ : Nat → Nat) : ACode := .seq (.seq (.reg false (r20_14 φ) [(14, 0)]) (.cond (.n 14) (.skip) (.exit 2))) (.seq (.block 3 (.seq (.reg true (r20_15 φ) [(15, 0)]) (.cond (.n 15) (.seq (.reg true (r20_16 φ) []) (.reg true (r20_17 φ) [])) (.skip)))) (.reg false (r20_18 φ) [(9, 0)]))
def r20_20 (φ : Nat → Nat) : List AOper := [
  ⟨0, .N .mv, [.c (.int .i64 0)], none, 0⟩]
def r20_21 (φ : Nat → Nat) : List AOper := [
  ⟨0, .N .mv, [.n 10], none, 0⟩,
  ⟨1, .N .mv, [.n 0], none, 0⟩,
  ⟨2, .N (.bin .lss), [.l 1, .l 0], none, 0⟩]
def r20_22 (φ : Nat → Nat) : List AOper := [
  ⟨0, .N .mv, [.c (.int .i64 0)], none, 0⟩]
def r20_23 (φ : Nat → Nat) : List AOper := [
  ⟨0, .N .mv, [.n 11], none, 0⟩,
  ⟨1, .N .mv, [.n 0], none, 0⟩,
  ⟨2, .N (.bin .lss), [.l 1, .l 0], none, 0⟩]
def r20_24 (φ : Nat → Nat) : List AOper := [
  ⟨0, .N (.loadN 2), [.n 6], none, 0⟩,
  ⟨1, .N .mv, [.n 10], none, 0⟩,
  ⟨2, .N .mv, [.n 11], none, 0⟩,
  ⟨4, .N .mv, [.n 8], none, 0⟩,
  ⟨5, .N .mv, [.n 10], none, 0⟩,
  ⟨6, .N .mv, [.n 0], none, 0⟩,
  ⟨7, .N (.bin .mul), [.l 1, .l 0], none, 48⟩,
  ⟨8, .N .mv, [.n 11], none, 0⟩,
  ⟨9, .N (.bin .add), [.l 1, .l 0], none, 240⟩,
  ⟨10, .N (.idx 1), [.l 5, .l 0], none, 504⟩,
  ⟨11, .N .load1, [.l 0], none, 1016⟩,
  ⟨3, .calli true (φ 7), [.l 10, .l 9, .l 8], none, 7⟩,
  ⟨12, .N (.eqB true), [.l 0, .l 1], none, 4095⟩]
def r20_25 (φ : Nat → Nat) : List AOper := [
  ⟨0, .N .mv, [.c (.bool false)], none, 0⟩]
def r20_26 (φ : Nat → Nat) : List AOper := [
  ⟨0, .N .mv, [.n 11], none, 0⟩,
  ⟨1, .N (.bin .add), [.l 0, .c (.int .i64 1)], none, 0⟩,
  ⟨2, .N .mv, [.l 0], none, 0⟩]
def l20_27 (φ : Nat → Nat) : ACode := .seq (.seq (.reg false (r20_23 φ) [(17, 0)]) (.cond (.n 17) (.skip) (.exit 6))) (.seq (.block 7 (.seq (.reg true (r20_24 φ) [(18, 0)]) (.cond (.n 18) (.seq (.reg false (r20_25 φ) [(2, 0)]) (.ret)) (.skip)))) (.reg false (r20_26 φ) [(11, 0)]))
def r20_28 (φ : Nat → Nat) : List AOper := [
  ⟨0, .N .mv, [.n 10], none, 0⟩,
  ⟨1, .N (.bin .add), [.l 0, .c (.int .i64 1)], none, 0⟩,
  ⟨2, .N .mv, [.l 0], none, 0⟩]
def l20_29 (φ : Nat → Nat) : ACode := .seq (.seq (.reg false (r20_21 φ) [(16, 0)]) (.cond (.n 16) (.skip) (.exit 4))) (.seq (.block 5 (.seq (.reg false (r20_22 φ) [(11, 0)]) (.block 6 (.loop (l20_27 φ))))) (.reg false (r20_28 φ) [(10, 0)]))
def r20_30 (φ : Nat → Nat) : List AOper := [
  ⟨0, .N .mv, [.n 3], none, 0⟩,
  ⟨1, .N .mv, [.l 0], none, 0⟩,
  ⟨2, .N (.loadN 2), [.n 6], some (.l 0, true), 0⟩,
  ⟨3, .calli true (φ 7), [.l 0, .c (.int .i64 (-1)), .c (.int .i64 0)], some (.l 1, true), 0⟩,
  ⟨4, .N (.un .not), [.l 0], some (.l 2, true), 0⟩,
  ⟨5, .N .pick, [.l 3, .l 0, .c (.bool false)], none, 0⟩,
  ⟨6, .N .mv, [.l 0], none, 0⟩,
  ⟨7, .N (.loadN 2), [.n 6], some (.l 0, true), 0⟩,
  ⟨8, .N .mv, [.n 0], some (.l 1, true), 0⟩,
  ⟨9, .calli true (φ 7), [.l 1, .c (.int .i64 0), .l 0], some (.l 2, true), 0⟩,
  ⟨10, .N (.un .not), [.l 0], some (.l 3, true), 0⟩,
  ⟨11, .N .pick, [.l 4, .l 0, .c (.bool false)], none, 0⟩,
  ⟨12, .N .mv, [.l 0], none, 0⟩]
def b20 (φ : Nat → Nat) : ACode := .seq (.reg false (r20_0 φ) [(2, 0)]) (.seq (.reg false (r20_1 φ) [(3, 0)]) (.seq (.reg false (r20_2 φ) [(0, 0)]) (.seq (.reg false (r20_3 φ) [(4, 0)]) (.seq (.seq (.reg false (r20_4 φ) [(5, 0)]) (.block 0 (.loop (l20_8 φ)))) (.seq (.reg false (r20_9 φ) [(6, 2), (7, 0)]) (.seq (.seq (.reg false (r20_10 φ) [(13, 0)]) (.cond (.n 13) (.seq (.reg false (r20_11 φ) [(2, 0)]) (.ret)) (.skip))) (.seq (.reg false (r20_12 φ) [(8, 0)]) (.seq (.seq (.reg false (r20_13 φ) [(9, 0)]) (.block 2 (.loop (l20_19 φ)))) (.seq (.seq (.reg false (r20_20 φ) [(10, 0)]) (.block 4 (.loop (l20_29 φ)))) (.seq (.reg false (r20_30 φ) [(2, 0)]) (.ret)))))))))))
def f20 (φ : Nat → Nat) : AFn := ⟨2, [0, 1, 4, 5, 6, 7, 8, 9, 10, 11, 12, 13, 29, 65, 73, 86, 119, 124, 139], 152, b20 φ, [.t 2]⟩
/-! 21: carcanet/carcanetlaw03.GraphTurned: 0:n 1:l 2: 3:head 4:one 5:two 6:i 7:x 8:g 9:e 10:h 11:f 12:again 13:k 14: -/
def r21_0 (φ : Nat → Nat) : List AOper := [
  ⟨0, .N .mv, [.c (.bool false)], none, 0⟩]
def r21_1 (φ : Nat → Nat) : List AOper := [
  ⟨0, .calli true (φ 0), [], none, 0⟩,
  ⟨1, .N .mv, [.l 0], none, 0⟩]
def r21_2 (φ : Nat → Nat) : List AOper := [
  ⟨0, .N .mv, [.n 0], none, 0⟩,
  ⟨1, .N (.bin .and), [.l 0, .c (.int .i64 65535)], none, 0⟩,
  ⟨2, .N (.bin .rem), [.l 0, .c (.int .i64 40)], none, 0⟩,
  ⟨3, .N (.bin .add), [.c (.int .i64 1), .l 0], none, 0⟩,
  ⟨4, .N .mv, [.l 0], none, 0⟩]
def r21_3 (φ : Nat → Nat) : List AOper := [
  ⟨0, .N .mv, [.c (.nils)], none, 0⟩]
def r21_4 (φ : Nat → Nat) : List AOper := [
  ⟨0, .N .mv, [.c (.nils)], none, 0⟩]
def r21_5 (φ : Nat → Nat) : List AOper := [
  ⟨0, .N .mv, [.c (.int .i64 0)], none, 0⟩]
def r21_6 (φ : Nat → Nat) : List AOper := [
  ⟨0, .N .mv, [.n 6], none, 0⟩,
  ⟨1, .N .mv, [.n 1], none, 0⟩,
  ⟨2, .N .lenS, [.l 0], none, 0⟩,
  ⟨3, .N (.bin .lss), [.l 2, .l 0], none, 0⟩,
  ⟨4, .N .mv, [.l 0], none, 0⟩,
  ⟨5, .N .mv, [.n 6], some (.l 0, true), 0⟩,
  ⟨6, .N (.bin .lss), [.l 0, .c (.int .i64 200)], some (.l 1, true), 0⟩,
  ⟨7, .N .pick, [.l 2, .l 0, .c (.bool false)], none, 0⟩]
def r21_7 (φ : Nat → Nat) : List AOper := [
  ⟨0, .N .mv, [.n 1], none, 0⟩,
  ⟨1, .N .mv, [.n 6], none, 0⟩,
  ⟨2, .N (.idx 2), [.l 1, .l 0], none, 3⟩,
  ⟨3, .N (.fadd 0), [.l 0], none, 7⟩,
  ⟨4, .N .load1, [.l 0], none, 15⟩,
  ⟨5, .N (.bin .and), [.l 0, .c (.int .i64 65535)], none, 31⟩,
  ⟨6, .N .mv, [.n 0], none, 0⟩,
  ⟨7, .N (.bin .rem), [.l 1, .l 0], none, 127⟩,
  ⟨8, .N .mv, [.n 1], none, 0⟩,
  ⟨9, .N .mv, [.n 6], none, 0⟩,
  ⟨10, .N (.idx 2), [.l 1, .l 0], none, 768⟩,
  ⟨11, .N (.fadd 1), [.l 0], none, 1792⟩,
  ⟨12, .N .load1, [.l 0], none, 3840⟩,
  ⟨13, .N (.bin .and), [.l 0, .c (.int .i64 65535)], none, 7936⟩,
  ⟨14, .N .mv, [.n 0], none, 0⟩,
  ⟨15, .N (.bin .rem), [.l 1, .l 0], none, 32512⟩,
  ⟨16, .N (.build [.int .i64 0, .int .i64 0] [(0, 1), (1, 1)]), [.l 8, .l 0], none, 65535⟩,
  ⟨17, .N (.alloc [.int .i64 0, .int .i64 0]), [], none, 0⟩,
  ⟨18, .X (.store 2), [.l 0, .l 1], none, 262143⟩]
def r21_8 (φ : Nat → Nat) : List AOper := [
  ⟨0, .N .mv, [.n 4], none, 0⟩,
  ⟨1, .N (.loadN 2), [.n 7], none, 0⟩,
  ⟨2, .N (.bsl [.int .i64 0, .int .i64 0] 1 2 [(0, 2)]), [.l 0], none, 0⟩,
  ⟨3, .X (.app 2 16), [.l 2, .l 0], none, 0⟩,
  ⟨4, .N .mv, [.l 0], none, 0⟩]
def r21_9 (φ : Nat → Nat) : List AOper := [
  ⟨0, .N (.fadd 1), [.n 7], none, 0⟩,
  ⟨1, .N .load1, [.l 0], none, 0⟩,
  ⟨2, .N (.fadd 0), [.n 7], none, 0⟩,
  ⟨3, .N .load1, [.l 0], none, 0⟩,
  ⟨4, .N (.build [.int .i64 0, .int .i64 0] [(0, 1), (1, 1)]), [.l 2, .l 0], none, 0⟩,
  ⟨5, .N (.fadd 0), [.n 7], none, 0⟩,
  ⟨6, .N .load1, [.l 0], none, 0⟩,
  ⟨7, .N (.fadd 0), [.n 7], none, 0⟩,
  ⟨8, .N .load1, [.l 0], none, 0⟩,
  ⟨9, .N (.build [.int .i64 0, .int .i64 0] [(0, 1), (1, 1)]), [.l 2, .l 0], none, 0⟩,
  ⟨10, .N (.bsl [.int .i64 0, .int .i64 0] 2 2 [(0, 2), (2, 2)]), [.l 5, .l 0], none, 0⟩,
  ⟨11, .N .mv, [.n 5], none, 0⟩,
  ⟨12, .X (.app 2 16), [.l 1, .l 0], none, 0⟩,
  ⟨13, .N .mv, [.l 0], none, 0⟩]
def r21_10 (φ : Nat → Nat) : List AOper := [
  ⟨0, .N .mv, [.n 6], none, 0⟩,
  ⟨1, .N (.bin .add), [.l 0, .c (.int .i64 1)], none, 0⟩,
  ⟨2, .N .mv, [.l 0], none, 0⟩]
def l21_11 (φ : Nat → Nat) : ACode := .seq (.seq (.reg false (r21_6 φ) [(14, 0)]) (.cond (.n 14) (.skip) (.exit 0))) (.seq (.block 1 (.seq (.reg true (r21_7 φ) [(7, 1)]) (.seq (.reg false (r21_8 φ) [(4, 0)]) (.reg false (r21_9 φ) [(5, 0)])))) (.reg false (r21_10 φ) [(6, 0)]))
def r21_12 (φ : Nat → Nat) : List AOper := [
  ⟨0, .N .mv, [.n 5], none, 0⟩,
  ⟨1, .N .mv, [.n 4], none, 0⟩,
  ⟨2, .X (.app 2 16), [.l 1, .l 0], none, 0⟩,
  ⟨3, .N .mv, [.l 0], none, 0⟩]
def r21_13 (φ : Nat → Nat) : List AOper := [
  ⟨0, .N .mv, [.n 0], none, 0⟩,
  ⟨1, .N .mv, [.n 4], none, 0⟩,
  ⟨2, .calli false (φ 1), [.l 1, .l 0], none, 0⟩,
  ⟨3, .N .mv, [.l 0], none, 0⟩,
  ⟨4, .N (.ext 0), [.l 0], none, 0⟩,
  ⟨5, .N (.ext 1), [.l 1], none, 0⟩,
  ⟨6, .N (.alloc [.int .i64 0, .nils]), [], none, 0⟩,
  ⟨7, .X (.store 2), [.l 0, .l 2], none, 0⟩,
  ⟨8, .N .mv, [.l 2], none, 0⟩]
def r21_14 (φ : Nat → Nat) : List AOper := [
  ⟨0, .N .mv, [.n 0], none, 0⟩,
  ⟨1, .N .mv, [.n 5], none, 0⟩,
  ⟨2, .calli false (φ 1), [.l 1, .l 0], none, 0⟩,
  ⟨3, .N .mv, [.l 0], none, 0⟩,
  ⟨4, .N (.ext 0), [.l 0], none, 0⟩,
  ⟨5, .N (.ext 1), [.l 1], none, 0⟩,
  ⟨6, .N (.alloc [.int .i64 0, .nils]), [], none, 0⟩,
  ⟨7, .X (.store 2), [.l 0, .l 2], none, 0⟩,
  ⟨8, .N .mv, [.l 2], none, 0⟩]
def r21_15 (φ : Nat → Nat) : List AOper := [
  ⟨0, .N .mv, [.n 0], none, 0⟩,
  ⟨1, .N (.fadd 1), [.n 8], none, 0⟩,
  ⟨2, .N .load1, [.l 0], none, 0⟩,
  ⟨3, .calli false (φ 1), [.l 2, .l 0], none, 0⟩,
  ⟨4, .N .mv, [.l 0], none, 0⟩,
  ⟨5, .N (.ext 0), [.l 0], none, 0⟩,
  ⟨6, .N (.ext 1), [.l 1], none, 0⟩,
  ⟨7, .N (.alloc [.int .i64 0, .nils]), [], none, 0⟩,
  ⟨8, .X (.store 2), [.l 0, .l 2], none, 0⟩,
  ⟨9, .N .mv, [.l 2], none, 0⟩]
def r21_16 (φ : Nat → Nat) : List AOper := [
  ⟨0, .N .mv, [.n 3], none, 0⟩,
  ⟨1, .N .mv, [.l 0], none, 0⟩,
  ⟨2, .N .mv, [.n 9], some (.l 0, true), 0⟩,
  ⟨3, .N (.bin .eql), [.l 0, .c (.int .i64 0)], some (.l 1, true), 0⟩,
  ⟨4, .N .pick, [.l 2, .l 0, .c (.bool false)], none, 0⟩,
  ⟨5, .N .mv, [.l 0], none, 0⟩,
  ⟨6, .N .mv, [.n 11], some (.l 0, true), 0⟩,
  ⟨7, .N (.bin .eql), [.l 0, .c (.int .i64 0)], some (.l 1, true), 0⟩,
  ⟨8, .N .pick, [.l 2, .l 0, .c (.bool false)], none, 0⟩,
  ⟨9, .N .mv, [.l 0], none, 0⟩,
  ⟨10, .N .mv, [.n 13], some (.l 0, true), 0⟩,
  ⟨11, .N (.bin .eql), [.l 0, .c (.int .i64 0)], some (.l 1, true), 0⟩,
  ⟨12, .N .pick, [.l 2, .l 0, .c (.bool false)], none, 0⟩,
  ⟨13, .N .mv, [.l 0], none, 0⟩,
  ⟨14, .N (.loadN 2), [.n 8], some (.l 0, true), 0⟩,
  ⟨15, .N (.loadN 2), [.n 10], some (.l 1, true), 0⟩,
  ⟨16, .calli true (φ 3), [.l 1, .l 0], some (.l 2, true), 0⟩,
  ⟨17, .N .pick, [.l 3, .l 0, .c (.bool false)], none, 0⟩,
  ⟨18, .N .mv, [.l 0], none, 0⟩,
  ⟨19, .N (.loadN 2), [.n 8], some (.l 0, true), 0⟩,
  ⟨20, .N (.loadN 2), [.n 12], some (.l 1, true), 0⟩,
  ⟨21, .calli true (φ 3), [.l 1, .l 0], some (.l 2, true), 0⟩,
  ⟨22, .N .pick, [.l 3, .l 0, .c (.bool false)], none, 0⟩,
  ⟨23, .N .mv, [.l 0], none, 0⟩]
def b21 (φ : Nat → Nat) : ACode := .seq (.reg false (r21_0 φ) [(2, 0)]) (.seq (.reg false (r21_1 φ) [(3, 0)]) (.seq (.reg false (r21_2 φ) [(0, 0)]) (.seq (.reg false (r21_3 φ) [(4, 0)]) (.seq (.reg false (r21_4 φ) [(5, 0)]) (.seq (.seq (.reg false (r21_5 φ) [(6, 0)]) (.block 0 (.loop (l21_11 φ)))) (.seq (.reg false (r21_12 φ) [(5, 0)]) (.seq (.reg false (r21_13 φ) [(8, 2), (9, 0)]) (.seq (.reg false (r21_14 φ) [(10, 2), (11, 0)]) (.seq (.reg false (r21_15 φ) [(12, 2), (13, 0)]) (.seq (.reg false (r21_16 φ) [(2, 0)]) (.ret)))))))))))
def f21 (φ : Nat → Nat) : AFn := ⟨2, [0, 1, 4, 5, 6, 7, 8, 9, 10, 11, 12, 13, 14, 15, 28], 110, b21 φ, [.t 2]⟩
/-! 24: carcanet/carcanetlaw03.GraphBack: 0:n 1:l 2:ends 3:ends 4: 5:head 6:g 7:a 8:b 9:was 10:had 11:x 12:e 13:y 14:f 15:again 16: 17: 18: -/
def r24_0 (φ : Nat → Nat) : List AOper := [
  ⟨0, .N .box, [.n 2], none, 0⟩,
  ⟨1, .N .mv, [.c (.bool false)], none, 0⟩]
def r24_1 (φ : Nat → Nat) : List AOper := [
  ⟨0, .calli true (φ 0), [], none, 0⟩,
  ⟨1, .N .mv, [.l 0], none, 0⟩]
def r24_2 (φ : Nat → Nat) : List AOper := [
  ⟨0, .N .mv, [.n 0], none, 0⟩,
  ⟨1, .N .mv, [.n 1], none, 0⟩,
  ⟨2, .calli false (φ 22), [.l 1, .l 0, .c (.int .i64 40)], none, 0⟩,
  ⟨3, .N (.alloc [.int .i64 0, .nils]), [], none, 0⟩,
  ⟨4, .X (.store 2), [.l 0, .l 1], none, 0⟩]
def r24_3 (φ : Nat → Nat) : List AOper := [
  ⟨0, .N (.fadd 0), [.n 6], none, 0⟩,
  ⟨1, .N .load1, [.l 0], none, 0⟩,
  ⟨2, .N (.bin .lss), [.l 0, .c (.int .i64 2)], none, 0⟩]
def r24_4 (φ : Nat → Nat) : List AOper := [
  ⟨0, .N .mv, [.n 5], none, 0⟩,
  ⟨1, .N .mv, [.l 0], none, 0⟩]
def r24_5 (φ : Nat → Nat) : List AOper := [
  ⟨0, .N (.idxA 2 1), [.n 3, .c (.int .i64 0)], none, 0⟩,
  ⟨1, .N .load1, [.l 0], none, 0⟩,
  ⟨2, .N (.bin .and), [.l 0, .c (.int .i64 65535)], none, 0⟩,
  ⟨3, .N (.fadd 0), [.n 6], none, 0⟩,
  ⟨4, .N .load1, [.l 0], none, 0⟩,
  ⟨5, .N (.bin .rem), [.l 2, .l 0], none, 0⟩,
  ⟨6, .N .mv, [.l 0], none, 0⟩]
def r24_6 (φ : Nat → Nat) : List AOper := [
  ⟨0, .N (.idxA 2 1), [.n 3, .c (.int .i64 1)], none, 0⟩,
  ⟨1, .N .load1, [.l 0], none, 0⟩,
  ⟨2, .N (.bin .and), [.l 0, .c (.int .i64 65535)], none, 0⟩,
  ⟨3, .N (.fadd 0), [.n 6], none, 0⟩,
  ⟨4, .N .load1, [.l 0], none, 0⟩,
  ⟨5, .N (.bin .rem), [.l 2, .l 0], none, 0⟩,
  ⟨6, .N .mv, [.l 0], none, 0⟩]
def r24_7 (φ : Nat → Nat) : List AOper := [
  ⟨0, .N (.bsl [.int .i64 0, .int .i64 0] 0 2 []), [], none, 0⟩,
  ⟨1, .N (.fadd 1), [.n 6], none, 0⟩,
  ⟨2, .N .load1, [.l 0], none, 0⟩,
  ⟨3, .X (.app 2 16), [.l 2, .l 0], none, 0⟩,
  ⟨4, .N .mv, [.l 0], none, 0⟩]
def r24_8 (φ : Nat → Nat) : List AOper := [
  ⟨0, .N (.loadN 2), [.n 6], none, 0⟩,
  ⟨1, .N .mv, [.n 7], none, 0⟩,
  ⟨2, .N .mv, [.n 8], none, 0⟩,
  ⟨3, .calli true (φ 8), [.l 2, .l 1, .l 0], none, 0⟩,
  ⟨4, .N .mv, [.l 0], none, 0⟩]
def r24_9 (φ : Nat → Nat) : List AOper := [
  ⟨0, .N (.loadN 2), [.n 6], none, 0⟩,
  ⟨1, .N .mv, [.n 7], none, 0⟩,
  ⟨2, .N .mv, [.n 8], none, 0⟩,
  ⟨3, .calli false (φ 15), [.l 2, .l 1, .l 0], none, 0⟩,
  ⟨4, .N .mv, [.l 0], none, 0⟩,
  ⟨5, .N (.ext 0), [.l 0], none, 0⟩,
  ⟨6, .N (.ext 1), [.l 1], none, 0⟩,
  ⟨7, .N (.alloc [.int .i64 0, .nils]), [], none, 0⟩,
  ⟨8, .X (.store 2), [.l 0, .l 2], none, 0⟩,
  ⟨9, .N .mv, [.l 2], none, 0⟩]
def r24_10 (φ : Nat → Nat) : List AOper := [
  ⟨0, .N .mv, [.n 7], none, 0⟩,
  ⟨1, .N .mv, [.n 8], none, 0⟩,
  ⟨2, .N (.bin .eql), [.l 1, .l 0], none, 0⟩]
def r24_11 (φ : Nat → Nat) : List AOper := [
  ⟨0, .N .mv, [.n 5], none, 0⟩,
  ⟨1, .N .mv, [.l 0], none, 0⟩,
  ⟨2, .N .mv, [.n 12], some (.l 0, true), 0⟩,
  ⟨3, .N (.bin .eql), [.l 0, .c (.int .i64 1)], some (.l 1, true), 0⟩,
  ⟨4, .N .pick, [.l 2, .l 0, .c (.bool false)], none, 0⟩,
  ⟨5, .N .mv, [.l 0], none, 0⟩,
  ⟨6, .N (.fadd 1), [.n 11], some (.l 0, true), 0⟩,
  ⟨7, .N .load1, [.l 0], some (.l 1, true), 0⟩,
  ⟨8, .N .lenS, [.l 0], some (.l 2, true), 0⟩,
  ⟨9, .N (.bin .eql), [.l 0, .c (.int .i64 0)], some (.l 3, true), 0⟩,
  ⟨10, .N .pick, [.l 4, .l 0, .c (.bool false)], none, 0⟩,
  ⟨11, .N .mv, [.l 0], none, 0⟩]
def r24_12 (φ : Nat → Nat) : List AOper := [
  ⟨0, .N .mv, [.n 12], none, 0⟩,
  ⟨1, .N (.bin .neq), [.l 0, .c (.int .i64 0)], none, 0⟩,
  ⟨2, .N .mv, [.l 0], none, 0⟩,
  ⟨3, .N (.loadN 2), [.n 11], some (.l 0, false), 0⟩,
  ⟨4, .N .mv, [.n 8], some (.l 1, false), 0⟩,
  ⟨5, .N .mv, [.n 7], some (.l 2, false), 0⟩,
  ⟨6, .calli true (φ 7), [.l 2, .l 1, .l 0], some (.l 3, false), 0⟩,
  ⟨7, .N (.un .not), [.l 0], some (.l 4, false), 0⟩,
  ⟨8, .N .pick, [.l 5, .c (.bool true), .l 0], none, 0⟩,
  ⟨9, .N .mv, [.l 0], none, 0⟩,
  ⟨10, .N (.fadd 1), [.n 11], some (.l 0, false), 0⟩,
  ⟨11, .N .load1, [.l 0], some (.l 1, false), 0⟩,
  ⟨12, .N .lenS, [.l 0], some (.l 2, false), 0⟩,
  ⟨13, .N .mv, [.n 9], some (.l 3, false), 0⟩,
  ⟨14, .N .lenS, [.l 0], some (.l 4, false), 0⟩,
  ⟨15, .N (.bin .add), [.l 0, .c (.int .i64 1)], some (.l 5, false), 0⟩,
  ⟨16, .N (.bin .neq), [.l 3, .l 0], some (.l 6, false), 0⟩,
  ⟨17, .N .mv, [.l 0], some (.l 7, false), 0⟩,
  ⟨18, .N .mv, [.n 10], some (.l 0, true), 0⟩,
  ⟨19, .N (.un .not), [.l 0], some (.l 1, true), 0⟩,
  ⟨20, .N .pick, [.l 2, .l 0, .c (.bool false)], some (.l 10, false), 0⟩,
  ⟨21, .N .pick, [.l 11, .c (.bool true), .l 0], none, 0⟩,
  ⟨22, .N .mv, [.l 0], none, 0⟩,
  ⟨23, .N .mv, [.n 10], some (.l 0, false), 0⟩,
  ⟨24, .N .mv, [.l 0], some (.l 1, false), 0⟩,
  ⟨25, .N (.loadN 2), [.n 11], some (.l 0, true), 0⟩,
  ⟨26, .N (.loadN 2), [.n 6], some (.l 1, true), 0⟩,
  ⟨27, .calli true (φ 3), [.l 1, .l 0], some (.l 2, true), 0⟩,
  ⟨28, .N (.un .not), [.l 0], some (.l 3, true), 0⟩,
  ⟨29, .N .pick, [.l 4, .l 0, .c (.bool false)], some (.l 6, false), 0⟩,
  ⟨30, .N .pick, [.l 7, .c (.bool true), .l 0], none, 0⟩]
def r24_13 (φ : Nat → Nat) : List AOper := [
  ⟨0, .N .mv, [.c (.bool false)], none, 0⟩]
def r24_14 (φ : Nat → Nat) : List AOper := [
  ⟨0, .N (.loadN 2), [.n 11], none, 0⟩,
  ⟨1, .N .mv, [.n 8], none, 0⟩,
  ⟨2, .N .mv, [.n 7], none, 0⟩,
  ⟨3, .calli false (φ 17), [.l 2, .l 1, .l 0], none, 0⟩,
  ⟨4, .N .mv, [.l 0], none, 0⟩,
  ⟨5, .N (.ext 0), [.l 0], none, 0⟩,
  ⟨6, .N (.ext 1), [.l 1], none, 0⟩,
  ⟨7, .N (.alloc [.int .i64 0, .nils]), [], none, 0⟩,
  ⟨8, .X (.store 2), [.l 0, .l 2], none, 0⟩,
  ⟨9, .N .mv, [.l 2], none, 0⟩]
def r24_15 (φ : Nat → Nat) : List AOper := [
  ⟨0, .N (.loadN 2), [.n 13], none, 0⟩,
  ⟨1, .N .mv, [.n 7], none, 0⟩,
  ⟨2, .N .mv, [.n 8], none, 0⟩,
  ⟨3, .calli false (φ 17), [.l 2, .l 1, .l 0], none, 0⟩,
  ⟨4, .N .mv, [.l 0], none, 0⟩,
  ⟨5, .N (.ext 0), [.l 0], none, 0⟩,
  ⟨6, .N (.ext 1), [.l 1], none, 0⟩,
  ⟨7, .N (.alloc [.int .i64 0, .nils]), [], none, 0⟩,
  ⟨8, .X (.store 2), [.l 0, .l 2], none, 0⟩,
  ⟨9, .N .mv, [.l 2], none, 0⟩]
def r24_16 (φ : Nat → Nat) : List AOper := [
  ⟨0, .N .mv, [.n 5], none, 0⟩,
  ⟨1, .N .mv, [.l 0], none, 0⟩,
  ⟨2, .N .mv, [.n 14], some (.l 0, true), 0⟩,
  ⟨3, .N (.bin .eql), [.l 0, .c (.int .i64 0)], some (.l 1, true), 0⟩,
  ⟨4, .N .pick, [.l 2, .l 0, .c (.bool false)], none, 0⟩,
  ⟨5, .N .mv, [.l 0], none, 0⟩,
  ⟨6, .N .mv, [.n 15], some (.l 0, true), 0⟩,
  ⟨7, .N (.bin .eql), [.l 0, .c (.int .i64 6)], some (.l 1, true), 0⟩,
  ⟨8, .N .pick, [.l 2, .l 0, .c (.bool false)], none, 0⟩,
  ⟨9, .N .mv, [.l 0], none, 0⟩,
  ⟨10, .N .mv, [.n 10], some (.l 0, true), 0⟩,
  ⟨11, .N .mv, [.l 0], some (.l 1, true), 0⟩,
  ⟨12, .N (.fadd 1), [.n 13], some (.l 0, false), 0⟩,
  ⟨13, .N .load1, [.l 0], some (.l 1, false), 0⟩,
  ⟨14, .N .mv, [.n 9], some (.l 2, false), 0⟩,
  ⟨15, .calli true (φ 23), [.l 1, .l 0], some (.l 3, false), 0⟩,
  ⟨16, .N .pick, [.l 4, .c (.bool true), .l 0], some (.l 6, true), 0⟩,
  ⟨17, .N .pick, [.l 7, .l 0, .c (.bool false)], none, 0⟩,
  ⟨18, .N .mv, [.l 0], none, 0⟩,
  ⟨19, .N (.fadd 1), [.n 6], some (.l 0, true), 0⟩,
  ⟨20, .N .load1, [.l 0], some (.l 1, true), 0⟩,
  ⟨21, .N .mv, [.n 9], some (.l 2, true), 0⟩,
  ⟨22, .calli true (φ 23), [.l 1, .l 0], some (.l 3, true), 0⟩,
  ⟨23, .N .pick, [.l 4, .l 0, .c (.bool false)], none, 0⟩,
  ⟨24, .N .mv, [.l 0], none, 0⟩]
def b24 (φ : Nat → Nat) : ACode := .seq (.reg false (r24_0 φ) [(3, 1), (4, 0)]) (.seq (.reg false (r24_1 φ) [(5, 0)]) (.seq (.reg false (r24_2 φ) [(6, 1)]) (.seq (.seq (.reg false (r24_3 φ) [(16, 0)]) (.cond (.n 16) (.seq (.reg false (r24_4 φ) [(4, 0)]) (.ret)) (.skip))) (.seq (.reg false (r24_5 φ) [(7, 0)]) (.seq (.reg false (r24_6 φ) [(8, 0)]) (.seq (.reg false (r24_7 φ) [(9, 0)]) (.seq (.reg false (r24_8 φ) [(10, 0)]) (.seq (.reg false (r24_9 φ) [(11, 2), (12, 0)]) (.seq (.seq (.reg false (r24_10 φ) [(17, 0)]) (.cond (.n 17) (.seq (.reg false (r24_11 φ) [(4, 0)]) (.ret)) (.skip))) (.seq (.seq (.reg false (r24_12 φ) [(18, 0)]) (.cond (.n 18) (.seq (.reg false (r24_13 φ) [(4, 0)]) (.ret)) (.skip))) (.seq (.reg false (r24_14 φ) [(13, 2), (14, 0)]) (.seq (.reg false (r24_15 φ) [(15, 0)]) (.seq (.reg false (r24_16 φ) [(4, 0)]) (.ret))))))))))))))
def f24 (φ : Nat → Nat) : AFn := ⟨3, [0, 1, 2, 5, 6, 7, 8, 9, 10, 11, 12, 13, 14, 15, 16, 18, 25, 56, 98], 137, b24 φ, [.t 4]⟩
/-! 26: carcanet/carcanetlaw03.GraphSum: 0:n 1:l 2: 3:head 4:g 5:d 6:sum 7:v 8:near 9:i 10: 11: 12: 13: 14: -/
def r26_0 (φ : Nat → Nat) : List AOper := [
  ⟨0, .N .mv, [.c (.bool false)], none, 0⟩]
def r26_1 (φ : Nat → Nat) : List AOper := [
  ⟨0, .calli true (φ 0), [], none, 0⟩,
  ⟨1, .N .mv, [.l 0], none, 0⟩]
def r26_2 (φ : Nat → Nat) : List AOper := [
  ⟨0, .N .mv, [.n 0], none, 0⟩,
  ⟨1, .N .mv, [.n 1], none, 0⟩,
  ⟨2, .calli false (φ 22), [.l 1, .l 0, .c (.int .i64 50)], none, 0⟩,
  ⟨3, .N (.alloc [.int .i64 0, .nils]), [], none, 0⟩,
  ⟨4, .X (.store 2), [.l 0, .l 1], none, 0⟩]
def r26_3 (φ : Nat → Nat) : List AOper := [
  ⟨0, .N (.loadN 2), [.n 4], none, 0⟩,
  ⟨1, .calli false (φ 12), [.l 0], none, 0⟩,
  ⟨2, .N .mv, [.l 0], none, 0⟩]
def r26_4 (φ : Nat → Nat) : List AOper := [
  ⟨0, .N .mv, [.n 5], none, 0⟩,
  ⟨1, .N .lenS, [.l 0], none, 0⟩,
  ⟨2, .N (.fadd 0), [.n 4], none, 0⟩,
  ⟨3, .N .load1, [.l 0], none, 0⟩,
  ⟨4, .N (.bin .neq), [.l 2, .l 0], none, 0⟩]
def r26_5 (φ : Nat → Nat) : List AOper := [
  ⟨0, .N .mv, [.c (.bool false)], none, 0⟩]
def r26_6 (φ : Nat → Nat) : List AOper := [
  ⟨0, .N .mv, [.c (.int .i64 0)], none, 0⟩]
def r26_7 (φ : Nat → Nat) : List AOper := [
  ⟨0, .N .mv, [.c (.int .i64 0)], none, 0⟩]
def r26_8 (φ : Nat → Nat) : List AOper := [
  ⟨0, .N .mv, [.n 7], none, 0⟩,
  ⟨1, .N (.fadd 0), [.n 4], none, 0⟩,
  ⟨2, .N .load1, [.l 0], none, 0⟩,
  ⟨3, .N (.bin .lss), [.l 2, .l 0], none, 0⟩]
def r26_9 (φ : Nat → Nat) : List AOper := [
  ⟨0, .N (.loadN 2), [.n 4], none, 0⟩,
  ⟨1, .N .mv, [.n 7], none, 0⟩,
  ⟨2, .calli false (φ 9), [.l 1, .l 0], none, 0⟩,
  ⟨3, .N .mv, [.l 0], none, 0⟩]
def r26_10 (φ : Nat → Nat) : List AOper := [
  ⟨0, .N .mv, [.n 8], none, 0⟩,
  ⟨1, .N .lenS, [.l 0], none, 0⟩,
  ⟨2, .N .mv, [.n 5], none, 0⟩,
  ⟨3, .N .mv, [.n 7], none, 0⟩,
  ⟨4, .N (.idx 1), [.l 1, .l 0], none, 0⟩,
  ⟨5, .N .load1, [.l 0], none, 0⟩,
  ⟨6, .N (.bin .neq), [.l 4, .l 0], none, 0⟩]
def r26_11 (φ : Nat → Nat) : List AOper := [
  ⟨0, .N .mv, [.c (.bool false)], none, 0⟩]
def r26_12 (φ : Nat → Nat) : List AOper := [
  ⟨0, .N .mv, [.n 6], none, 0⟩,
  ⟨1, .N .mv, [.n 5], none, 0⟩,
  ⟨2, .N .mv, [.n 7], none, 0⟩,
  ⟨3, .N (.idx 1), [.l 1, .l 0], none, 0⟩,
  ⟨4, .N .load1, [.l 0], none, 0⟩,
  ⟨5, .N (.bin .add), [.l 4, .l 0], none, 0⟩,
  ⟨6, .N .mv, [.l 0], none, 0⟩]
def r26_13 (φ : Nat → Nat) : List AOper := [
  ⟨0, .N .mv, [.c (.int .i64 0)], none, 0⟩]
def r26_14 (φ : Nat → Nat) : List AOper := [
  ⟨0, .N .mv, [.n 9], none, 0⟩,
  ⟨1, .N .mv, [.n 8], none, 0⟩,
  ⟨2, .N .lenS, [.l 0], none, 0⟩,
  ⟨3, .N (.bin .lss), [.l 2, .l 0], none, 0⟩]
def r26_15 (φ : Nat → Nat) : List AOper := [
  ⟨0, .N .mv, [.n 9], none, 0⟩,
  ⟨1, .N (.bin .gtr), [.l 0, .c (.int .i64 0)], none, 1⟩,
  ⟨2, .N .mv, [.l 0], none, 3⟩,
  ⟨3, .N .mv, [.n 8], some (.l 0, true), 7⟩,
  ⟨4, .N .mv, [.n 9], some (.l 1, true), 7⟩,
  ⟨5, .N (.idx 1), [.l 1, .l 0], some (.l 2, true), 31⟩,
  ⟨6, .N .load1, [.l 0], some (.l 3, true), 63⟩,
  ⟨7, .N .mv, [.n 8], some (.l 4, true), 7⟩,
  ⟨8, .N .mv, [.n 9], some (.l 5, true), 7⟩,
  ⟨9, .N (.bin .sub), [.l 0, .c (.int .i64 1)], some (.l 6, true), 263⟩,
  ⟨10, .N (.idx 1), [.l 2, .l 0], some (.l 7, true), 903⟩,
  ⟨11, .N .load1, [.l 0], some (.l 8, true), 1927⟩,
  ⟨12, .N (.bin .leq), [.l 5, .l 0], some (.l 9, true), 4095⟩,
  ⟨13, .N .pick, [.l 10, .l 0, .c (.bool false)], none, 8191⟩,
  ⟨14, .N .mv, [.l 0], none, 16383⟩,
  ⟨15, .N .mv, [.n 8], some (.l 0, false), 32767⟩,
  ⟨16, .N .mv, [.n 9], some (.l 1, false), 32767⟩,
  ⟨17, .N (.idx 1), [.l 1, .l 0], some (.l 2, false), 131071⟩,
  ⟨18, .N .load1, [.l 0], some (.l 3, false), 262143⟩,
  ⟨19, .N .mv, [.n 7], some (.l 4, false), 32767⟩,
  ⟨20, .N (.bin .eql), [.l 1, .l 0], some (.l 5, false), 1048575⟩,
  ⟨21, .N .pick, [.l 6, .c (.bool true), .l 0], none, 2097151⟩,
  ⟨22, .N .mv, [.l 0], none, 4194303⟩,
  ⟨23, .N (.loadN 2), [.n 4], some (.l 0, false), 8388607⟩,
  ⟨24, .N .mv, [.n 8], some (.l 1, false), 8388607⟩,
  ⟨25, .N .mv, [.n 9], some (.l 2, false), 8388607⟩,
  ⟨26, .N (.idx 1), [.l 1, .l 0], some (.l 3, false), 58720255⟩,
  ⟨27, .N .load1, [.l 0], some (.l 4, false), 125829119⟩,
  ⟨29, .N .mv, [.n 7], some (.l 5, false), 8388607⟩,
  ⟨28, .calli false (φ 9), [.l 5, .l 1], some (.l 6, false), 268435455⟩,
  ⟨30, .calli true (φ 25), [.l 0, .l 1], some (.l 7, false), 1073741823⟩,
  ⟨31, .N (.un .not), [.l 0], some (.l 8, false), 2147483647⟩,
  ⟨32, .N .pick, [.l 9, .c (.bool true), .l 0], none, 4294967295⟩]
def r26_16 (φ : Nat → Nat) : List AOper := [
  ⟨0, .N .mv, [.c (.bool false)], none, 0⟩]
def r26_17 (φ : Nat → Nat) : List AOper := [
  ⟨0, .N .mv, [.n 9], none, 0⟩,
  ⟨1, .N (.bin .add), [.l 0, .c (.int .i64 1)], none, 0⟩,
  ⟨2, .N .mv, [.l 0], none, 0⟩]
def l26_18 (φ : Nat → Nat) : ACode := .seq (.seq (.reg false (r26_14 φ) [(13, 0)]) (.cond (.n 13) (.skip) (.exit 2))) (.seq (.block 3 (.seq (.reg true (r26_15 φ) [(14, 0)]) (.cond (.n 14) (.seq (.reg false (r26_16 φ) [(2, 0)]) (.ret)) (.skip)))) (.reg false (r26_17 φ) [(9, 0)]))
def r26_19 (φ : Nat → Nat) : List AOper := [
  ⟨0, .N .mv, [.n 7], none, 0⟩,
  ⟨1, .N (.bin .add), [.l 0, .c (.int .i64 1)], none, 0⟩,
  ⟨2, .N .mv, [.l 0], none, 0⟩]
def l26_20 (φ : Nat → Nat) : ACode := .seq (.seq (.reg false (r26_8 φ) [(11, 0)]) (.cond (.n 11) (.skip) (.exit 0))) (.seq (.block 1 (.seq (.reg false (r26_9 φ) [(8, 0)]) (.seq (.seq (.reg false (r26_10 φ) [(12, 0)]) (.cond (.n 12) (.seq (.reg false (r26_11 φ) [(2, 0)]) (.ret)) (.skip))) (.seq (.reg false (r26_12 φ) [(6, 0)]) (.seq (.reg false (r26_13 φ) [(9, 0)]) (.block 2 (.loop (l26_18 φ)))))))) (.reg false (r26_19 φ) [(7, 0)]))
def r26_21 (φ : Nat → Nat) : List AOper := [
  ⟨0, .N .mv, [.n 3], none, 0⟩,
  ⟨1, .N .mv, [.l 0], none, 0⟩,
  ⟨2, .N .mv, [.n 6], some (.l 0, true), 0⟩,
  ⟨3, .N (.fadd 1), [.n 4], some (.l 1, true), 0⟩,
  ⟨4, .N .load1, [.l 0], some (.l 2, true), 0⟩,
  ⟨5, .N .lenS, [.l 0], some (.l 3, true), 0⟩,
  ⟨6, .N (.bin .mul), [.c (.int .i64 2), .l 0], some (.l 4, true), 0⟩,
  ⟨7, .N (.bin .eql), [.l 4, .l 0], some (.l 5, true), 0⟩,
  ⟨8, .N .pick, [.l 6, .l 0, .c (.bool false)], none, 0⟩,
  ⟨9, .N .mv, [.l 0], none, 0⟩]
def b26 (φ : Nat → Nat) : ACode := .seq (.reg false (r26_0 φ) [(2, 0)]) (.seq (.reg false (r26_1 φ) [(3, 0)]) (.seq (.reg false (r26_2 φ) [(4, 1)]) (.seq (.reg false (r26_3 φ) [(5, 0)]) (.seq (.seq (.reg false (r26_4 φ) [(10, 0)]) (.cond (.n 10) (.seq (.reg false (r26_5 φ) [(2, 0)]) (.ret)) (.skip))) (.seq (.reg false (r26_6 φ) [(6, 0)]) (.seq (.seq (.reg false (r26_7 φ) [(7, 0)]) (.block 0 (.loop (l26_20 φ)))) (.seq (.reg false (r26_21 φ) [(2, 0)]) (.ret))))))))
def f26 (φ : Nat → Nat) : AFn := ⟨2, [0, 1, 4, 5, 6, 7, 8, 9, 10, 11, 22, 26, 38, 48, 83], 93, b26 φ, [.t 2]⟩
end Go.Ai.G
/- The numbers of this seat for the functions. Written by a program of this session. -/
namespace Go.Proofs.Ytdjanabcicdmlaa.M
open Go.Ai Go.Ai.G
set_option maxRecDepth 100000
def tbl : List (Nat × Nat) := [(0, 10), (1, 11), (2, 12), (3, 13), (4, 14), (5, 3), (6, 15), (7, 16), (8, 17), (9, 19), (10, 20), (11, 18), (12, 21), (13, 22), (14, 4), (15, 23), (16, 24), (17, 25), (18, 26), (19, 5), (20, 6), (21, 7), (22, 27), (23, 28), (24, 8), (25, 29), (26, 9), (27, 30), (28, 33), (29, 31), (30, 34), (31, 32), (32, 36), (33, 37), (34, 38), (35, 42), (36, 41), (37, 54)]
def φs (i : Nat) : Nat := (tbl.lookup i).getD 0
def fns : List (Nat × AFn) := [(10, f0 φs), (11, f1 φs), (12, f2 φs), (13, f3 φs), (14, f4 φs), (3, f5 φs), (15, f6 φs), (17, f8 φs), (20, f10 φs), (18, f11 φs), (21, f12 φs), (22, f13 φs), (4, f14 φs), (23, f15 φs), (24, f16 φs), (25, f17 φs), (26, f18 φs), (5, f19 φs), (6, f20 φs), (7, f21 φs), (27, f22 φs), (28, f23 φs), (8, f24 φs), (29, f25 φs), (9, f26 φs), (33, f28 φs), (31, f29 φs), (34, f30 φs), (32, f31 φs), (36, f32 φs), (37, f33 φs), (38, f34 φs), (42, f35 φs), (41, f36 φs), (54, f37 φs)]
end Go.Proofs.Ytdjanabcicdmlaa.M
