/- A part of what the law leans on: the abstract machine, the contracts, the rows. -/
import Derived.Test.YtgoiomkgedcfjaaK13
/- sub.Contract. -/
namespace Go.Ai.G
open Go.Ai
set_option maxRecDepth 100000
set_option linter.unusedSimpArgs false
set_option linter.unusedVariables false
variable {A : AProg} {φ : Nat → Nat}
theorem er45_0 (φ : Nat → Nat) : r45_0 φ = [
  ⟨0, .N .box, [.n 0], none, 0⟩,
  ⟨1, .N (.alloc [.int .i64 0, .nils]), [], none, 0⟩,
  ⟨2, .N .mv, [.c (.int .i64 0)], none, 0⟩] := Eq.trans rfl rfl
theorem er45_1 (φ : Nat → Nat) : r45_1 φ = [
  ⟨0, .N (.loadN 2), [.n 3], none, 0⟩,
  ⟨1, .calli true (φ 4), [.l 0], none, 0⟩,
  ⟨2, .N (.un .not), [.l 0], none, 0⟩,
  ⟨3, .N .mv, [.l 0], none, 0⟩] := Eq.trans rfl rfl
theorem er45_2 (φ : Nat → Nat) : r45_2 φ = [
  ⟨0, .N (.build [.int .i64 0, .nils] []), [], none, 0⟩,
  ⟨1, .X (.store 2), [.n 4, .l 0], none, 0⟩,
  ⟨2, .N .mv, [.c (.int .i64 1)], none, 0⟩] := Eq.trans rfl rfl
theorem er45_3 (φ : Nat → Nat) : r45_3 φ = [
  ⟨0, .N .mv, [.n 1], none, 0⟩,
  ⟨1, .N .mv, [.n 2], none, 0⟩,
  ⟨2, .N .min, [.l 1, .l 0], none, 0⟩,
  ⟨3, .N (.bin .lss), [.l 0, .c (.int .i64 0)], none, 0⟩,
  ⟨4, .N .mv, [.l 0], none, 0⟩,
  ⟨5, .N .mv, [.n 1], some (.l 0, false), 0⟩,
  ⟨6, .N .mv, [.n 2], some (.l 1, false), 0⟩,
  ⟨7, .N .max, [.l 1, .l 0], some (.l 2, false), 0⟩,
  ⟨8, .N (.fadd 0), [.n 3], some (.l 3, false), 0⟩,
  ⟨9, .N .load1, [.l 0], some (.l 4, false), 0⟩,
  ⟨10, .N (.bin .geq), [.l 2, .l 0], some (.l 5, false), 0⟩,
  ⟨11, .N .pick, [.l 6, .c (.bool true), .l 0], none, 0⟩,
  ⟨12, .N .mv, [.l 0], none, 0⟩] := Eq.trans rfl rfl
theorem er45_4 (φ : Nat → Nat) : r45_4 φ = [
  ⟨0, .N (.build [.int .i64 0, .nils] []), [], none, 0⟩,
  ⟨1, .X (.store 2), [.n 4, .l 0], none, 0⟩,
  ⟨2, .N .mv, [.c (.int .i64 4)], none, 0⟩] := Eq.trans rfl rfl
theorem er45_5 (φ : Nat → Nat) : r45_5 φ = [
  ⟨0, .N (.loadN 2), [.n 3], none, 0⟩,
  ⟨1, .N .mv, [.n 1], none, 0⟩,
  ⟨2, .N .mv, [.n 2], none, 0⟩,
  ⟨3, .calli true (φ 7), [.l 2, .l 1, .l 0], none, 0⟩,
  ⟨4, .N (.un .not), [.l 0], none, 0⟩,
  ⟨5, .N .mv, [.l 0], none, 0⟩] := Eq.trans rfl rfl
theorem er45_6 (φ : Nat → Nat) : r45_6 φ = [
  ⟨0, .N (.build [.int .i64 0, .nils] []), [], none, 0⟩,
  ⟨1, .X (.store 2), [.n 4, .l 0], none, 0⟩,
  ⟨2, .N .mv, [.c (.int .i64 6)], none, 0⟩] := Eq.trans rfl rfl
theorem er45_7 (φ : Nat → Nat) : r45_7 φ = [
  ⟨0, .N .mv, [.n 1], none, 0⟩,
  ⟨1, .N .mv, [.n 2], none, 0⟩,
  ⟨2, .N .min, [.l 1, .l 0], none, 0⟩,
  ⟨3, .N .mv, [.n 1], none, 0⟩,
  ⟨4, .N .mv, [.n 2], none, 0⟩,
  ⟨5, .N .max, [.l 1, .l 0], none, 0⟩,
  ⟨6, .N (.alloc [.int .i64 0]), [], none, 0⟩,
  ⟨7, .N (.alloc [.int .i64 0]), [], none, 0⟩,
  ⟨8, .X (.store 1), [.l 1, .l 5], none, 0⟩,
  ⟨9, .X (.store 1), [.l 1, .l 3], none, 0⟩] := Eq.trans rfl rfl
theorem er45_8 (φ : Nat → Nat) : r45_8 φ = [
  ⟨0, .N (.fadd 0), [.n 3], none, 0⟩,
  ⟨1, .N .load1, [.l 0], none, 0⟩,
  ⟨2, .N (.bin .sub), [.l 0, .c (.int .i64 1)], none, 0⟩,
  ⟨3, .N (.mkfn (.func (φ 58)) 0), [.n 7, .n 6], none, 0⟩,
  ⟨4, .N (.build [.int .i64 0, .nilf] [(0, 1), (1, 1)]), [.l 1, .l 0], none, 0⟩,
  ⟨5, .N (.loadN 2), [.n 3], none, 0⟩,
  ⟨6, .call (φ 54), [.l 1, .l 0], none, 0⟩,
  ⟨7, .N (.ext 0), [.l 0], none, 0⟩,
  ⟨8, .N (.ext 1), [.l 1], none, 0⟩,
  ⟨9, .X (.store 2), [.n 4, .l 1], none, 0⟩,
  ⟨10, .N .mv, [.l 1], none, 0⟩] := Eq.trans rfl rfl
theorem er58_0 (φ : Nat → Nat) : r58_0 φ = [
  ⟨0, .N .mv, [.c (.int .i64 0)], none, 0⟩] := Eq.trans rfl rfl
theorem er58_1 (φ : Nat → Nat) : r58_1 φ = [
  ⟨0, .N .mv, [.n 0], none, 0⟩,
  ⟨1, .N .load1, [.n 1], none, 0⟩,
  ⟨2, .N (.bin .eql), [.l 1, .l 0], none, 0⟩,
  ⟨3, .N .mv, [.l 0], none, 0⟩] := Eq.trans rfl rfl
theorem er58_2 (φ : Nat → Nat) : r58_2 φ = [
  ⟨0, .N .load1, [.n 2], none, 0⟩,
  ⟨1, .N .mv, [.l 0], none, 0⟩] := Eq.trans rfl rfl
theorem er58_3 (φ : Nat → Nat) : r58_3 φ = [
  ⟨0, .N .mv, [.n 0], none, 0⟩,
  ⟨1, .N .load1, [.n 1], none, 0⟩,
  ⟨2, .N (.bin .gtr), [.l 1, .l 0], none, 0⟩,
  ⟨3, .N .mv, [.l 0], none, 0⟩] := Eq.trans rfl rfl
theorem er58_4 (φ : Nat → Nat) : r58_4 φ = [
  ⟨0, .N .mv, [.n 0], none, 0⟩,
  ⟨1, .N (.bin .sub), [.l 0, .c (.int .i64 1)], none, 0⟩,
  ⟨2, .N .mv, [.l 0], none, 0⟩] := Eq.trans rfl rfl
theorem er58_5 (φ : Nat → Nat) : r58_5 φ = [
  ⟨0, .N .mv, [.n 0], none, 0⟩,
  ⟨1, .N .mv, [.l 0], none, 0⟩] := Eq.trans rfl rfl
def conI (lo hi x : Int) : Int := if x = hi then lo else if hi < x then x - 1 else x
def contractE (n : Int) (es : List Ed) (a b : Int) : Int × List Ed × Int :=
  if rightE n es = false then (0, [], 1) else if min a b < 0 ∨ n ≤ max a b then (0, [], 4) else if hasE n es a b = false then (0, [], 6) else normalE (n - 1) (mapE (conI (min a b) (max a b)) es)
theorem w_Con1 (h : Has A (φ 58) (f58 φ)) (x lo hi : Int) (hx : 0 ≤ x ∧ x ≤ 1000000) (H : Heap) (K : AV → Heap → Prop) (h1 : H[3]? = some (.cells 0 false [.int .i64 hi])) (h2 : H[2]? = some (.cells 0 false [.int .i64 lo])) (hK : K (.int .i64 (conI lo hi x)) H) : PCall A (φ 58) [.int .i64 x, .ptr 3 0 0, .ptr 2 0 0] H K := by
  refine pcall_has h rfl ?_
  have hw : IntKind.i64.wrap (x - 1) = x - 1 := wrap_in (by omega) (by omega)
  simp only [b58, f58]
  unfold conI at hK
  by_cases q1 : x = hi
  · subst q1
    rw [if_pos rfl] at hK
    simp [↓getD_z, ↓getD_s, -List.getD_eq_getElem?_getD, -Int.ofNat_toNat, -getElem?_pos, gz, ↓hid_k, ↓hid_o, ↓hid_q, ↓hid_v, ↓PO_nil, ↓PO_none, ↓PO_grd, ↓PD_nil, ↓PD_none, ↓PD_grd, ↓PDO_N, ↓PDO_X, ↓PDO_call, ↓PDO_calli, ↓PDO_callv, PDX_free, PDX_eq, ↓PStep_N, ↓PStep_X, ↓PStep_call, ↓PStep_calli, PStep_callv, ↓PC_skip, ↓PC_lab, ↓PC_ret, ↓PC_exit, ↓PC_reg, ↓PC_draw, ↓PC_seq, ↓PC_block, ↓PC_loop, ↓PC_scope, ↓PC_cond, ↓thenC_norm, ↓thenC_ret, ↓thenC_exit, ↓blockC_norm, ↓blockC_ret, ↓blockC_exit, ↓loopC_norm, ↓loopC_ret, ↓loopC_exit, ↓endR_ret, ↓endR_norm, resK_none, resK_t, resK_tt, KNO_val, KNO_new, KNO_ite, KNO_map, KXO_some, KXO_ite, KVA_t, KVA_f, KG_skip, KG_tt, KG_ff, KG_tf, KG_ft, KB_true, KB_false, KNOD_val, KNOD_new, KNOD_ite, n_mv, n_pick, n_bin, n_eqB, n_eqN, n_eqS, n_un, n_conv, n_fadd, n_faddV, n_fld1, n_fldN, n_idx, n_idxA, n_idxV, n_idxAV, n_ext, n_lenS, n_lenS0, n_lenV, n_lenT, n_lenA, n_min, n_max, n_build, n_mkfn, n_slc, n_slc0, n_slcV, n_slcA, n_load1, n_loadN, n_load1V, n_loadNV, n_alloc, n_box, n_bsl, n_mksl, n_nilcP, n_nilcV, n_nilcI, n_nilcF, x_store, x_clear0, x_clear, b_add, b_sub, b_mul, b_eql, b_neq, b_lss, b_leq, b_gtr, b_geq, b_and16, unV, ntouch, gather, hide, unhide, evalOpd, applyOuts, int_bne, int_beq, ite_bool, ite_int, one_bool, cells_bool, one_int, cells_int, one_str, cells_str, one_nilp, cells_nilp, one_ptr, cells_ptr, one_nils, cells_nils, one_sl, cells_sl, one_nilf, cells_nilf, one_fn, cells_fn, one_nili, cells_nili, one_mp, cells_mp, one_nilm, cells_nilm, one_iface, cells_iface, one_vs, cells_vs, one_vp, cells_vp, cells_agg, Nat.testBit, setAt_1, setAt_2, closeds_nil, closeds_cons, closed_bool, closed_int, closed_str, closed_nilp, closed_nils, closed_nilm, closed_nilf, closed_nili, closed_agg, closed_tup, closed_vs, closed_vp, closed_iface, closed_fn, closeds_cI, closeds_cE, viewA_closed, viewR_closed, AV.scal, AV.scal0, fillA, repA, part_bool, part_int, part_str, part_nilp, part_ptr, part_nils, part_sl, part_nilm, part_mp, part_nilf, part_fn, part_nili, part_iface, part_agg, part_vs, part_vp, viewA_sl1, vaSl_cells, wrap_0, wrap_1, wrap_2, wrap_m1, set_last, get_last, er58_0, er58_1, er58_2, er58_3, er58_4, er58_5, h1, h2, resK, resVs, resV, pack]
    exact hK
  · rw [if_neg q1] at hK
    by_cases q2 : hi < x
    · rw [if_pos q2] at hK
      simp [↓getD_z, ↓getD_s, -List.getD_eq_getElem?_getD, -Int.ofNat_toNat, -getElem?_pos, gz, ↓hid_k, ↓hid_o, ↓hid_q, ↓hid_v, ↓PO_nil, ↓PO_none, ↓PO_grd, ↓PD_nil, ↓PD_none, ↓PD_grd, ↓PDO_N, ↓PDO_X, ↓PDO_call, ↓PDO_calli, ↓PDO_callv, PDX_free, PDX_eq, ↓PStep_N, ↓PStep_X, ↓PStep_call, ↓PStep_calli, PStep_callv, ↓PC_skip, ↓PC_lab, ↓PC_ret, ↓PC_exit, ↓PC_reg, ↓PC_draw, ↓PC_seq, ↓PC_block, ↓PC_loop, ↓PC_scope, ↓PC_cond, ↓thenC_norm, ↓thenC_ret, ↓thenC_exit, ↓blockC_norm, ↓blockC_ret, ↓blockC_exit, ↓loopC_norm, ↓loopC_ret, ↓loopC_exit, ↓endR_ret, ↓endR_norm, resK_none, resK_t, resK_tt, KNO_val, KNO_new, KNO_ite, KNO_map, KXO_some, KXO_ite, KVA_t, KVA_f, KG_skip, KG_tt, KG_ff, KG_tf, KG_ft, KB_true, KB_false, KNOD_val, KNOD_new, KNOD_ite, n_mv, n_pick, n_bin, n_eqB, n_eqN, n_eqS, n_un, n_conv, n_fadd, n_faddV, n_fld1, n_fldN, n_idx, n_idxA, n_idxV, n_idxAV, n_ext, n_lenS, n_lenS0, n_lenV, n_lenT, n_lenA, n_min, n_max, n_build, n_mkfn, n_slc, n_slc0, n_slcV, n_slcA, n_load1, n_loadN, n_load1V, n_loadNV, n_alloc, n_box, n_bsl, n_mksl, n_nilcP, n_nilcV, n_nilcI, n_nilcF, x_store, x_clear0, x_clear, b_add, b_sub, b_mul, b_eql, b_neq, b_lss, b_leq, b_gtr, b_geq, b_and16, unV, ntouch, gather, hide, unhide, evalOpd, applyOuts, int_bne, int_beq, ite_bool, ite_int, one_bool, cells_bool, one_int, cells_int, one_str, cells_str, one_nilp, cells_nilp, one_ptr, cells_ptr, one_nils, cells_nils, one_sl, cells_sl, one_nilf, cells_nilf, one_fn, cells_fn, one_nili, cells_nili, one_mp, cells_mp, one_nilm, cells_nilm, one_iface, cells_iface, one_vs, cells_vs, one_vp, cells_vp, cells_agg, Nat.testBit, setAt_1, setAt_2, closeds_nil, closeds_cons, closed_bool, closed_int, closed_str, closed_nilp, closed_nils, closed_nilm, closed_nilf, closed_nili, closed_agg, closed_tup, closed_vs, closed_vp, closed_iface, closed_fn, closeds_cI, closeds_cE, viewA_closed, viewR_closed, AV.scal, AV.scal0, fillA, repA, part_bool, part_int, part_str, part_nilp, part_ptr, part_nils, part_sl, part_nilm, part_mp, part_nilf, part_fn, part_nili, part_iface, part_agg, part_vs, part_vp, viewA_sl1, vaSl_cells, wrap_0, wrap_1, wrap_2, wrap_m1, set_last, get_last, er58_0, er58_1, er58_2, er58_3, er58_4, er58_5, h1, h2, q1, q2, hw, resK, resVs, resV, pack]
      exact hK
    · rw [if_neg q2] at hK
      simp [↓getD_z, ↓getD_s, -List.getD_eq_getElem?_getD, -Int.ofNat_toNat, -getElem?_pos, gz, ↓hid_k, ↓hid_o, ↓hid_q, ↓hid_v, ↓PO_nil, ↓PO_none, ↓PO_grd, ↓PD_nil, ↓PD_none, ↓PD_grd, ↓PDO_N, ↓PDO_X, ↓PDO_call, ↓PDO_calli, ↓PDO_callv, PDX_free, PDX_eq, ↓PStep_N, ↓PStep_X, ↓PStep_call, ↓PStep_calli, PStep_callv, ↓PC_skip, ↓PC_lab, ↓PC_ret, ↓PC_exit, ↓PC_reg, ↓PC_draw, ↓PC_seq, ↓PC_block, ↓PC_loop, ↓PC_scope, ↓PC_cond, ↓thenC_norm, ↓thenC_ret, ↓thenC_exit, ↓blockC_norm, ↓blockC_ret, ↓blockC_exit, ↓loopC_norm, ↓loopC_ret, ↓loopC_exit, ↓endR_ret, ↓endR_norm, resK_none, resK_t, resK_tt, KNO_val, KNO_new, KNO_ite, KNO_map, KXO_some, KXO_ite, KVA_t, KVA_f, KG_skip, KG_tt, KG_ff, KG_tf, KG_ft, KB_true, KB_false, KNOD_val, KNOD_new, KNOD_ite, n_mv, n_pick, n_bin, n_eqB, n_eqN, n_eqS, n_un, n_conv, n_fadd, n_faddV, n_fld1, n_fldN, n_idx, n_idxA, n_idxV, n_idxAV, n_ext, n_lenS, n_lenS0, n_lenV, n_lenT, n_lenA, n_min, n_max, n_build, n_mkfn, n_slc, n_slc0, n_slcV, n_slcA, n_load1, n_loadN, n_load1V, n_loadNV, n_alloc, n_box, n_bsl, n_mksl, n_nilcP, n_nilcV, n_nilcI, n_nilcF, x_store, x_clear0, x_clear, b_add, b_sub, b_mul, b_eql, b_neq, b_lss, b_leq, b_gtr, b_geq, b_and16, unV, ntouch, gather, hide, unhide, evalOpd, applyOuts, int_bne, int_beq, ite_bool, ite_int, one_bool, cells_bool, one_int, cells_int, one_str, cells_str, one_nilp, cells_nilp, one_ptr, cells_ptr, one_nils, cells_nils, one_sl, cells_sl, one_nilf, cells_nilf, one_fn, cells_fn, one_nili, cells_nili, one_mp, cells_mp, one_nilm, cells_nilm, one_iface, cells_iface, one_vs, cells_vs, one_vp, cells_vp, cells_agg, Nat.testBit, setAt_1, setAt_2, closeds_nil, closeds_cons, closed_bool, closed_int, closed_str, closed_nilp, closed_nils, closed_nilm, closed_nilf, closed_nili, closed_agg, closed_tup, closed_vs, closed_vp, closed_iface, closed_fn, closeds_cI, closeds_cE, viewA_closed, viewR_closed, AV.scal, AV.scal0, fillA, repA, part_bool, part_int, part_str, part_nilp, part_ptr, part_nils, part_sl, part_nilm, part_mp, part_nilf, part_fn, part_nili, part_iface, part_agg, part_vs, part_vp, viewA_sl1, vaSl_cells, wrap_0, wrap_1, wrap_2, wrap_m1, set_last, get_last, er58_0, er58_1, er58_2, er58_3, er58_4, er58_5, h1, h2, q1, q2, resK, resVs, resV, pack]
      exact hK
set_option maxHeartbeats 1000000 in
theorem w_renamed2 (h : Has A (φ 54) (f54 φ)) (hN : NormalC A (φ 1)) (f : Int → Int) (fid : Nat) (cap cap2 : AV) (m N : Int) (u : AV) (es : List Ed) (hv : IsE u es) (hn : es.length ≤ 4000) (H : Heap) {K : AV → Heap → Prop} (hcap : cap.one = true) (hcap2 : cap2.one = true)
    (hclo : ∀ e ∈ es, ∀ x, x = e.1 ∨ x = e.2 → ∀ (H' : Heap) (K' : AV → Heap → Prop), (∀ b, b < H.length → H'[b]? = H[b]?) → K' (.int .i64 (f x)) H' → PCall A fid [.int .i64 x, cap, cap2] H' K')
    (hk : ∀ H', (∀ b, b < H.length → H'[b]? = H[b]?) → H.length ≤ H'.length → K (nR m (mapE f es)) H') : PCall A (φ 54) [.agg [.int .i64 m, .fn (.func fid) [] [cap, cap2]], gV N u] H K := by
  have hlen := hv.len
  have hone := hv.one
  refine pcall_has h rfl ?_
  simp only [l54_9, b54, f54]
  simp [↓getD_z, ↓getD_s, -List.getD_eq_getElem?_getD, -Int.ofNat_toNat, -getElem?_pos, gz, ↓hid_k, ↓hid_o, ↓hid_q, ↓hid_v, ↓PO_nil, ↓PO_none, ↓PO_grd, ↓PD_nil, ↓PD_none, ↓PD_grd, ↓PDO_N, ↓PDO_X, ↓PDO_call, ↓PDO_calli, ↓PDO_callv, PDX_free, PDX_eq, ↓PStep_N, ↓PStep_X, ↓PStep_call, ↓PStep_calli, PStep_callv, ↓PC_skip, ↓PC_lab, ↓PC_ret, ↓PC_exit, ↓PC_reg, ↓PC_draw, ↓PC_seq, ↓PC_block, ↓PC_loop, ↓PC_scope, ↓PC_cond, ↓thenC_norm, ↓thenC_ret, ↓thenC_exit, ↓blockC_norm, ↓blockC_ret, ↓blockC_exit, ↓loopC_norm, ↓loopC_ret, ↓loopC_exit, ↓endR_ret, ↓endR_norm, resK_none, resK_t, resK_tt, KNO_val, KNO_new, KNO_ite, KNO_map, KXO_some, KXO_ite, KVA_t, KVA_f, KG_skip, KG_tt, KG_ff, KG_tf, KG_ft, KB_true, KB_false, KNOD_val, KNOD_new, KNOD_ite, n_mv, n_pick, n_bin, n_eqB, n_eqN, n_eqS, n_un, n_conv, n_fadd, n_faddV, n_fld1, n_fldN, n_idx, n_idxA, n_idxV, n_idxAV, n_ext, n_lenS, n_lenS0, n_lenV, n_lenT, n_lenA, n_min, n_max, n_build, n_mkfn, n_slc, n_slc0, n_slcV, n_slcA, n_load1, n_loadN, n_load1V, n_loadNV, n_alloc, n_box, n_bsl, n_mksl, n_nilcP, n_nilcV, n_nilcI, n_nilcF, x_store, x_clear0, x_clear, b_add, b_sub, b_mul, b_eql, b_neq, b_lss, b_leq, b_gtr, b_geq, b_and16, unV, ntouch, gather, hide, unhide, evalOpd, applyOuts, int_bne, int_beq, ite_bool, ite_int, one_bool, cells_bool, one_int, cells_int, one_str, cells_str, one_nilp, cells_nilp, one_ptr, cells_ptr, one_nils, cells_nils, one_sl, cells_sl, one_nilf, cells_nilf, one_fn, cells_fn, one_nili, cells_nili, one_mp, cells_mp, one_nilm, cells_nilm, one_iface, cells_iface, one_vs, cells_vs, one_vp, cells_vp, cells_agg, Nat.testBit, setAt_1, setAt_2, closeds_nil, closeds_cons, closed_bool, closed_int, closed_str, closed_nilp, closed_nils, closed_nilm, closed_nilf, closed_nili, closed_agg, closed_tup, closed_vs, closed_vp, closed_iface, closed_fn, closeds_cI, closeds_cE, viewA_closed, viewR_closed, AV.scal, AV.scal0, fillA, repA, part_bool, part_int, part_str, part_nilp, part_ptr, part_nils, part_sl, part_nilm, part_mp, part_nilf, part_fn, part_nili, part_iface, part_agg, part_vs, part_vp, viewA_sl1, vaSl_cells, wrap_0, wrap_1, wrap_2, wrap_m1, set_last, get_last, er54_0, er54_1, er54_2, er54_3, er54_4, er54_5, er54_6, er54_7, er54_8, er54_10, hlen, hone, get_at, get_at0, set_at, set_at0]
  refine pc_loopI (fun k st => ∃ (i : Nat) (l x a b p13 p14 : AV) (H' : Heap), i + k = es.length ∧ OwnE true (H.length + 3) H' l (mapE f (es.take i)) ∧
      H'[H.length]? = some (.cells 0 false [.int .i64 m, .fn (.func fid) [] [cap, cap2]]) ∧ H'[H.length + 1]? = some (.cells 0 false [.int .i64 N, u]) ∧ H'[H.length + 2]? = some (.cells 0 false [.int .i64 0, .nils]) ∧ (∀ b, b < H.length → H'[b]? = H[b]?) ∧
      st = ([.agg [.int .i64 m, .fn (.func fid) [] [cap, cap2]], gV N u, .ptr H.length 0 0, .ptr (H.length + 1) 0 0, .ptr (H.length + 2) 0 0, .int .i64 0, l, x, a, b, u, .int .i64 es.length, .int .i64 i, p13, p14], H')) es.length
      ⟨0, _, _, _, _, _, _, _, by simp, own_nil _ _ _, get_at0 _ _, get_at _ _ 1, get_at _ _ 2, fun b hb => List.getElem?_append_left hb, rfl⟩ ?_
  rintro k st ⟨i, l, x, a, b, p13, p14, H', hi, ho, g0, g1, g2, hold, rfl⟩
  have hb2 := lt_of_get g2
  by_cases hlt : i < es.length
  · have hlt' : (i : Int) < es.length := by omega
    obtain ⟨i1, z1, z2, le1, t1⟩ := hv.at hlt
    have hw1 := wrap1 hlt (by omega)
    have hts : mapE f (es.take (i + 1)) = mapE f (es.take i) ++ (if 0 ≤ f es[i].1 ∧ 0 ≤ f es[i].2 then [(f es[i].1, f es[i].2)] else []) := by rw [List.take_succ_eq_append_getElem hlt, mapE_snoc]
    have hmem := List.getElem_mem hlt
    generalize es[i] = e at *
    have g0J : ∀ J, (H' ++ J)[H.length]? = some (.cells 0 false [.int .i64 m, .fn (.func fid) [] [cap, cap2]]) := fun J => get_more J g0
    simp [↓getD_z, ↓getD_s, -List.getD_eq_getElem?_getD, -Int.ofNat_toNat, -getElem?_pos, gz, ↓hid_k, ↓hid_o, ↓hid_q, ↓hid_v, ↓PO_nil, ↓PO_none, ↓PO_grd, ↓PD_nil, ↓PD_none, ↓PD_grd, ↓PDO_N, ↓PDO_X, ↓PDO_call, ↓PDO_calli, ↓PDO_callv, PDX_free, PDX_eq, ↓PStep_N, ↓PStep_X, ↓PStep_call, ↓PStep_calli, PStep_callv, ↓PC_skip, ↓PC_lab, ↓PC_ret, ↓PC_exit, ↓PC_reg, ↓PC_draw, ↓PC_seq, ↓PC_block, ↓PC_loop, ↓PC_scope, ↓PC_cond, ↓thenC_norm, ↓thenC_ret, ↓thenC_exit, ↓blockC_norm, ↓blockC_ret, ↓blockC_exit, ↓loopC_norm, ↓loopC_ret, ↓loopC_exit, ↓endR_ret, ↓endR_norm, resK_none, resK_t, resK_tt, KNO_val, KNO_new, KNO_ite, KNO_map, KXO_some, KXO_ite, KVA_t, KVA_f, KG_skip, KG_tt, KG_ff, KG_tf, KG_ft, KB_true, KB_false, KNOD_val, KNOD_new, KNOD_ite, n_mv, n_pick, n_bin, n_eqB, n_eqN, n_eqS, n_un, n_conv, n_fadd, n_faddV, n_fld1, n_fldN, n_idx, n_idxA, n_idxV, n_idxAV, n_ext, n_lenS, n_lenS0, n_lenV, n_lenT, n_lenA, n_min, n_max, n_build, n_mkfn, n_slc, n_slc0, n_slcV, n_slcA, n_load1, n_loadN, n_load1V, n_loadNV, n_alloc, n_box, n_bsl, n_mksl, n_nilcP, n_nilcV, n_nilcI, n_nilcF, x_store, x_clear0, x_clear, b_add, b_sub, b_mul, b_eql, b_neq, b_lss, b_leq, b_gtr, b_geq, b_and16, unV, ntouch, gather, hide, unhide, evalOpd, applyOuts, int_bne, int_beq, ite_bool, ite_int, one_bool, cells_bool, one_int, cells_int, one_str, cells_str, one_nilp, cells_nilp, one_ptr, cells_ptr, one_nils, cells_nils, one_sl, cells_sl, one_nilf, cells_nilf, one_fn, cells_fn, one_nili, cells_nili, one_mp, cells_mp, one_nilm, cells_nilm, one_iface, cells_iface, one_vs, cells_vs, one_vp, cells_vp, cells_agg, Nat.testBit, setAt_1, setAt_2, closeds_nil, closeds_cons, closed_bool, closed_int, closed_str, closed_nilp, closed_nils, closed_nilm, closed_nilf, closed_nili, closed_agg, closed_tup, closed_vs, closed_vp, closed_iface, closed_fn, closeds_cI, closeds_cE, viewA_closed, viewR_closed, AV.scal, AV.scal0, fillA, repA, part_bool, part_int, part_str, part_nilp, part_ptr, part_nils, part_sl, part_nilm, part_mp, part_nilf, part_fn, part_nili, part_iface, part_agg, part_vs, part_vp, viewA_sl1, vaSl_cells, wrap_0, wrap_1, wrap_2, wrap_m1, set_last, get_last, er54_0, er54_1, er54_2, er54_3, er54_4, er54_5, er54_6, er54_7, er54_8, er54_10, hlt', i1, z1, z2, le1, t1, g0, g0J, get_at, get_at0, set_at, set_at0, PDX_eq]
    have hk1 : ∀ b, b < H.length → (H' ++ [.cells 0 false [.int .i64 e.1, .int .i64 e.2]])[b]? = H[b]? := fun b hb => by
      rw [List.getElem?_append_left (by omega)]; exact hold b hb
    refine hclo e hmem e.1 (.inl rfl) _ _ hk1 ?_
    simp only [hid_k]
    refine ⟨fun b _ => trivial, ?_⟩
    simp [↓getD_z, ↓getD_s, -List.getD_eq_getElem?_getD, -Int.ofNat_toNat, -getElem?_pos, gz, ↓hid_k, ↓hid_o, ↓hid_q, ↓hid_v, ↓PO_nil, ↓PO_none, ↓PO_grd, ↓PD_nil, ↓PD_none, ↓PD_grd, ↓PDO_N, ↓PDO_X, ↓PDO_call, ↓PDO_calli, ↓PDO_callv, PDX_free, PDX_eq, ↓PStep_N, ↓PStep_X, ↓PStep_call, ↓PStep_calli, PStep_callv, ↓PC_skip, ↓PC_lab, ↓PC_ret, ↓PC_exit, ↓PC_reg, ↓PC_draw, ↓PC_seq, ↓PC_block, ↓PC_loop, ↓PC_scope, ↓PC_cond, ↓thenC_norm, ↓thenC_ret, ↓thenC_exit, ↓blockC_norm, ↓blockC_ret, ↓blockC_exit, ↓loopC_norm, ↓loopC_ret, ↓loopC_exit, ↓endR_ret, ↓endR_norm, resK_none, resK_t, resK_tt, KNO_val, KNO_new, KNO_ite, KNO_map, KXO_some, KXO_ite, KVA_t, KVA_f, KG_skip, KG_tt, KG_ff, KG_tf, KG_ft, KB_true, KB_false, KNOD_val, KNOD_new, KNOD_ite, n_mv, n_pick, n_bin, n_eqB, n_eqN, n_eqS, n_un, n_conv, n_fadd, n_faddV, n_fld1, n_fldN, n_idx, n_idxA, n_idxV, n_idxAV, n_ext, n_lenS, n_lenS0, n_lenV, n_lenT, n_lenA, n_min, n_max, n_build, n_mkfn, n_slc, n_slc0, n_slcV, n_slcA, n_load1, n_loadN, n_load1V, n_loadNV, n_alloc, n_box, n_bsl, n_mksl, n_nilcP, n_nilcV, n_nilcI, n_nilcF, x_store, x_clear0, x_clear, b_add, b_sub, b_mul, b_eql, b_neq, b_lss, b_leq, b_gtr, b_geq, b_and16, unV, ntouch, gather, hide, unhide, evalOpd, applyOuts, int_bne, int_beq, ite_bool, ite_int, one_bool, cells_bool, one_int, cells_int, one_str, cells_str, one_nilp, cells_nilp, one_ptr, cells_ptr, one_nils, cells_nils, one_sl, cells_sl, one_nilf, cells_nilf, one_fn, cells_fn, one_nili, cells_nili, one_mp, cells_mp, one_nilm, cells_nilm, one_iface, cells_iface, one_vs, cells_vs, one_vp, cells_vp, cells_agg, Nat.testBit, setAt_1, setAt_2, closeds_nil, closeds_cons, closed_bool, closed_int, closed_str, closed_nilp, closed_nils, closed_nilm, closed_nilf, closed_nili, closed_agg, closed_tup, closed_vs, closed_vp, closed_iface, closed_fn, closeds_cI, closeds_cE, viewA_closed, viewR_closed, AV.scal, AV.scal0, fillA, repA, part_bool, part_int, part_str, part_nilp, part_ptr, part_nils, part_sl, part_nilm, part_mp, part_nilf, part_fn, part_nili, part_iface, part_agg, part_vs, part_vp, viewA_sl1, vaSl_cells, wrap_0, wrap_1, wrap_2, wrap_m1, set_last, get_last, er54_0, er54_1, er54_2, er54_3, er54_4, er54_5, er54_6, er54_7, er54_8, er54_10, PDX_eq]
    refine hclo e hmem e.2 (.inr rfl) _ _ hk1 ?_
    simp only [hid_k]
    refine ⟨fun b _ => trivial, ?_⟩
    have hml := mapE_len f (es.take i)
    have hml2 : (es.take i).length ≤ es.length := by simp; omega
    obtain ⟨l1, H1, x1, x2, x3, x4, x5, x6⟩ := OwnE.app1 (ho.more [.cells 0 false [.int .i64 e.1, .int .i64 e.2]]) (f e.1) (f e.2) (by simp; omega) (by omega)
    simp only [List.append_assoc, List.cons_append, List.nil_append, List.length_append, List.length_cons, List.length_nil, Nat.zero_add] at x1
    by_cases q : 0 ≤ f e.1 ∧ 0 ≤ f e.2
    · rw [if_pos q] at hts
      obtain ⟨q1, q2⟩ := q
      simp [↓getD_z, ↓getD_s, -List.getD_eq_getElem?_getD, -Int.ofNat_toNat, -getElem?_pos, gz, ↓hid_k, ↓hid_o, ↓hid_q, ↓hid_v, ↓PO_nil, ↓PO_none, ↓PO_grd, ↓PD_nil, ↓PD_none, ↓PD_grd, ↓PDO_N, ↓PDO_X, ↓PDO_call, ↓PDO_calli, ↓PDO_callv, PDX_free, PDX_eq, ↓PStep_N, ↓PStep_X, ↓PStep_call, ↓PStep_calli, PStep_callv, ↓PC_skip, ↓PC_lab, ↓PC_ret, ↓PC_exit, ↓PC_reg, ↓PC_draw, ↓PC_seq, ↓PC_block, ↓PC_loop, ↓PC_scope, ↓PC_cond, ↓thenC_norm, ↓thenC_ret, ↓thenC_exit, ↓blockC_norm, ↓blockC_ret, ↓blockC_exit, ↓loopC_norm, ↓loopC_ret, ↓loopC_exit, ↓endR_ret, ↓endR_norm, resK_none, resK_t, resK_tt, KNO_val, KNO_new, KNO_ite, KNO_map, KXO_some, KXO_ite, KVA_t, KVA_f, KG_skip, KG_tt, KG_ff, KG_tf, KG_ft, KB_true, KB_false, KNOD_val, KNOD_new, KNOD_ite, n_mv, n_pick, n_bin, n_eqB, n_eqN, n_eqS, n_un, n_conv, n_fadd, n_faddV, n_fld1, n_fldN, n_idx, n_idxA, n_idxV, n_idxAV, n_ext, n_lenS, n_lenS0, n_lenV, n_lenT, n_lenA, n_min, n_max, n_build, n_mkfn, n_slc, n_slc0, n_slcV, n_slcA, n_load1, n_loadN, n_load1V, n_loadNV, n_alloc, n_box, n_bsl, n_mksl, n_nilcP, n_nilcV, n_nilcI, n_nilcF, x_store, x_clear0, x_clear, b_add, b_sub, b_mul, b_eql, b_neq, b_lss, b_leq, b_gtr, b_geq, b_and16, unV, ntouch, gather, hide, unhide, evalOpd, applyOuts, int_bne, int_beq, ite_bool, ite_int, one_bool, cells_bool, one_int, cells_int, one_str, cells_str, one_nilp, cells_nilp, one_ptr, cells_ptr, one_nils, cells_nils, one_sl, cells_sl, one_nilf, cells_nilf, one_fn, cells_fn, one_nili, cells_nili, one_mp, cells_mp, one_nilm, cells_nilm, one_iface, cells_iface, one_vs, cells_vs, one_vp, cells_vp, cells_agg, Nat.testBit, setAt_1, setAt_2, closeds_nil, closeds_cons, closed_bool, closed_int, closed_str, closed_nilp, closed_nils, closed_nilm, closed_nilf, closed_nili, closed_agg, closed_tup, closed_vs, closed_vp, closed_iface, closed_fn, closeds_cI, closeds_cE, viewA_closed, viewR_closed, AV.scal, AV.scal0, fillA, repA, part_bool, part_int, part_str, part_nilp, part_ptr, part_nils, part_sl, part_nilm, part_mp, part_nilf, part_fn, part_nili, part_iface, part_agg, part_vs, part_vp, viewA_sl1, vaSl_cells, wrap_0, wrap_1, wrap_2, wrap_m1, set_last, get_last, er54_0, er54_1, er54_2, er54_3, er54_4, er54_5, er54_6, er54_7, er54_8, er54_10, q1, q2, x1, hw1]
      refine next_mk (k - 1) (by omega) ⟨i + 1, l1, _, _, _, _, _, H1, by omega, by rw [hts]; exact x2, ?_, ?_, ?_, fun b hb => ?_, rfl⟩
      · rw [x3 _ (by omega)]; exact g0J _
      · rw [x3 _ (by omega)]; exact get_more _ g1
      · rw [x3 _ (by omega)]; exact get_more _ g2
      · rw [x3 _ (by omega)]; exact hk1 b hb
    · rw [if_neg q, List.append_nil] at hts
      have fin : nextC (fun k st => ∃ (i : Nat) (l x a b p13 p14 : AV) (H' : Heap), i + k = es.length ∧ OwnE true (H.length + 3) H' l (mapE f (es.take i)) ∧
      H'[H.length]? = some (.cells 0 false [.int .i64 m, .fn (.func fid) [] [cap, cap2]]) ∧ H'[H.length + 1]? = some (.cells 0 false [.int .i64 N, u]) ∧ H'[H.length + 2]? = some (.cells 0 false [.int .i64 0, .nils]) ∧ (∀ b, b < H.length → H'[b]? = H[b]?) ∧
      st = ([.agg [.int .i64 m, .fn (.func fid) [] [cap, cap2]], gV N u, .ptr H.length 0 0, .ptr (H.length + 1) 0 0, .ptr (H.length + 2) 0 0, .int .i64 0, l, x, a, b, u, .int .i64 es.length, .int .i64 i, p13, p14], H')) () k
        ([.agg [.int .i64 m, .fn (.func fid) [] [cap, cap2]], gV N u, .ptr H.length 0 0, .ptr (H.length + 1) 0 0, .ptr (H.length + 2) 0 0, .int .i64 0, l, .ptr H'.length 0 0, .int .i64 (f e.1), .int .i64 (f e.2), u, .int .i64 es.length, .int .i64 ((i : Int) + 1), .bool true, .bool false], H' ++ [.cells 0 false [.int .i64 e.1, .int .i64 e.2]]) := by
        exact next_mk (k - 1) (by omega) ⟨i + 1, l, _, _, _, _, _, _, by omega, by rw [hts]; exact ho.more _, g0J _, get_more _ g1, get_more _ g2, hk1, rfl⟩
      by_cases q1 : 0 ≤ f e.1
      · have q2 : ¬ 0 ≤ f e.2 := fun h => q ⟨q1, h⟩
        simp [↓getD_z, ↓getD_s, -List.getD_eq_getElem?_getD, -Int.ofNat_toNat, -getElem?_pos, gz, ↓hid_k, ↓hid_o, ↓hid_q, ↓hid_v, ↓PO_nil, ↓PO_none, ↓PO_grd, ↓PD_nil, ↓PD_none, ↓PD_grd, ↓PDO_N, ↓PDO_X, ↓PDO_call, ↓PDO_calli, ↓PDO_callv, PDX_free, PDX_eq, ↓PStep_N, ↓PStep_X, ↓PStep_call, ↓PStep_calli, PStep_callv, ↓PC_skip, ↓PC_lab, ↓PC_ret, ↓PC_exit, ↓PC_reg, ↓PC_draw, ↓PC_seq, ↓PC_block, ↓PC_loop, ↓PC_scope, ↓PC_cond, ↓thenC_norm, ↓thenC_ret, ↓thenC_exit, ↓blockC_norm, ↓blockC_ret, ↓blockC_exit, ↓loopC_norm, ↓loopC_ret, ↓loopC_exit, ↓endR_ret, ↓endR_norm, resK_none, resK_t, resK_tt, KNO_val, KNO_new, KNO_ite, KNO_map, KXO_some, KXO_ite, KVA_t, KVA_f, KG_skip, KG_tt, KG_ff, KG_tf, KG_ft, KB_true, KB_false, KNOD_val, KNOD_new, KNOD_ite, n_mv, n_pick, n_bin, n_eqB, n_eqN, n_eqS, n_un, n_conv, n_fadd, n_faddV, n_fld1, n_fldN, n_idx, n_idxA, n_idxV, n_idxAV, n_ext, n_lenS, n_lenS0, n_lenV, n_lenT, n_lenA, n_min, n_max, n_build, n_mkfn, n_slc, n_slc0, n_slcV, n_slcA, n_load1, n_loadN, n_load1V, n_loadNV, n_alloc, n_box, n_bsl, n_mksl, n_nilcP, n_nilcV, n_nilcI, n_nilcF, x_store, x_clear0, x_clear, b_add, b_sub, b_mul, b_eql, b_neq, b_lss, b_leq, b_gtr, b_geq, b_and16, unV, ntouch, gather, hide, unhide, evalOpd, applyOuts, int_bne, int_beq, ite_bool, ite_int, one_bool, cells_bool, one_int, cells_int, one_str, cells_str, one_nilp, cells_nilp, one_ptr, cells_ptr, one_nils, cells_nils, one_sl, cells_sl, one_nilf, cells_nilf, one_fn, cells_fn, one_nili, cells_nili, one_mp, cells_mp, one_nilm, cells_nilm, one_iface, cells_iface, one_vs, cells_vs, one_vp, cells_vp, cells_agg, Nat.testBit, setAt_1, setAt_2, closeds_nil, closeds_cons, closed_bool, closed_int, closed_str, closed_nilp, closed_nils, closed_nilm, closed_nilf, closed_nili, closed_agg, closed_tup, closed_vs, closed_vp, closed_iface, closed_fn, closeds_cI, closeds_cE, viewA_closed, viewR_closed, AV.scal, AV.scal0, fillA, repA, part_bool, part_int, part_str, part_nilp, part_ptr, part_nils, part_sl, part_nilm, part_mp, part_nilf, part_fn, part_nili, part_iface, part_agg, part_vs, part_vp, viewA_sl1, vaSl_cells, wrap_0, wrap_1, wrap_2, wrap_m1, set_last, get_last, er54_0, er54_1, er54_2, er54_3, er54_4, er54_5, er54_6, er54_7, er54_8, er54_10, q1, q2, hw1]
        simpa using fin
      · simp [↓getD_z, ↓getD_s, -List.getD_eq_getElem?_getD, -Int.ofNat_toNat, -getElem?_pos, gz, ↓hid_k, ↓hid_o, ↓hid_q, ↓hid_v, ↓PO_nil, ↓PO_none, ↓PO_grd, ↓PD_nil, ↓PD_none, ↓PD_grd, ↓PDO_N, ↓PDO_X, ↓PDO_call, ↓PDO_calli, ↓PDO_callv, PDX_free, PDX_eq, ↓PStep_N, ↓PStep_X, ↓PStep_call, ↓PStep_calli, PStep_callv, ↓PC_skip, ↓PC_lab, ↓PC_ret, ↓PC_exit, ↓PC_reg, ↓PC_draw, ↓PC_seq, ↓PC_block, ↓PC_loop, ↓PC_scope, ↓PC_cond, ↓thenC_norm, ↓thenC_ret, ↓thenC_exit, ↓blockC_norm, ↓blockC_ret, ↓blockC_exit, ↓loopC_norm, ↓loopC_ret, ↓loopC_exit, ↓endR_ret, ↓endR_norm, resK_none, resK_t, resK_tt, KNO_val, KNO_new, KNO_ite, KNO_map, KXO_some, KXO_ite, KVA_t, KVA_f, KG_skip, KG_tt, KG_ff, KG_tf, KG_ft, KB_true, KB_false, KNOD_val, KNOD_new, KNOD_ite, n_mv, n_pick, n_bin, n_eqB, n_eqN, n_eqS, n_un, n_conv, n_fadd, n_faddV, n_fld1, n_fldN, n_idx, n_idxA, n_idxV, n_idxAV, n_ext, n_lenS, n_lenS0, n_lenV, n_lenT, n_lenA, n_min, n_max, n_build, n_mkfn, n_slc, n_slc0, n_slcV, n_slcA, n_load1, n_loadN, n_load1V, n_loadNV, n_alloc, n_box, n_bsl, n_mksl, n_nilcP, n_nilcV, n_nilcI, n_nilcF, x_store, x_clear0, x_clear, b_add, b_sub, b_mul, b_eql, b_neq, b_lss, b_leq, b_gtr, b_geq, b_and16, unV, ntouch, gather, hide, unhide, evalOpd, applyOuts, int_bne, int_beq, ite_bool, ite_int, one_bool, cells_bool, one_int, cells_int, one_str, cells_str, one_nilp, cells_nilp, one_ptr, cells_ptr, one_nils, cells_nils, one_sl, cells_sl, one_nilf, cells_nilf, one_fn, cells_fn, one_nili, cells_nili, one_mp, cells_mp, one_nilm, cells_nilm, one_iface, cells_iface, one_vs, cells_vs, one_vp, cells_vp, cells_agg, Nat.testBit, setAt_1, setAt_2, closeds_nil, closeds_cons, closed_bool, closed_int, closed_str, closed_nilp, closed_nils, closed_nilm, closed_nilf, closed_nili, closed_agg, closed_tup, closed_vs, closed_vp, closed_iface, closed_fn, closeds_cI, closeds_cE, viewA_closed, viewR_closed, AV.scal, AV.scal0, fillA, repA, part_bool, part_int, part_str, part_nilp, part_ptr, part_nils, part_sl, part_nilm, part_mp, part_nilf, part_fn, part_nili, part_iface, part_agg, part_vs, part_vp, viewA_sl1, vaSl_cells, wrap_0, wrap_1, wrap_2, wrap_m1, set_last, get_last, er54_0, er54_1, er54_2, er54_3, er54_4, er54_5, er54_6, er54_7, er54_8, er54_10, q1, hw1]
        simpa using fin
  · have hlt' : ¬ (i : Int) < es.length := by omega
    have htk : es.take i = es := List.take_of_length_le (by omega)
    rw [htk] at ho
    have hml := mapE_len f es
    have va := (Own.vw ho).r2 (closeds_cE _) (.int .i64 m) rfl
    have hbo : ∀ b, blkOf l = some b → H.length + 3 ≤ b := fun b hb => (Own.blk ho hb).1
    have hF : ∀ b, b < H.length + 3 → (frzOf H' l)[b]? = H'[b]? := fun b hb => frzOf_get _ _ (fun h => by have := hbo b h; omega)
    have hFl := frzOf_len H' l
    have i1 : IsE (rv true (mapE f es).length 2 (cellsE (mapE f es))) (mapE f es) := is_rv (cellsE_length _) (closeds_cE _)
    have c1 := (hN m _ (mapE f es) i1 (by omega)).eq
    have f0 := (hF H.length (by omega)).trans g0
    have f2 := (hF (H.length + 2) (by omega)).trans g2
    generalize frzOf H' l = F at *
    generalize hu1 : rv true (mapE f es).length 2 (cellsE (mapE f es)) = u1 at *
    have hxl := normalE_len m (mapE f es)
    simp only [nR] at c1 hk
    generalize normalE m (mapE f es) = y at *
    have iy := isE_r y.2.1
    have hset : ∀ z, (F.set (H.length + 2) z)[H.length + 2]? = some z := fun z => List.getElem?_set_self (by omega)
    simp [↓getD_z, ↓getD_s, -List.getD_eq_getElem?_getD, -Int.ofNat_toNat, -getElem?_pos, gz, ↓hid_k, ↓hid_o, ↓hid_q, ↓hid_v, ↓PO_nil, ↓PO_none, ↓PO_grd, ↓PD_nil, ↓PD_none, ↓PD_grd, ↓PDO_N, ↓PDO_X, ↓PDO_call, ↓PDO_calli, ↓PDO_callv, PDX_free, PDX_eq, ↓PStep_N, ↓PStep_X, ↓PStep_call, ↓PStep_calli, PStep_callv, ↓PC_skip, ↓PC_lab, ↓PC_ret, ↓PC_exit, ↓PC_reg, ↓PC_draw, ↓PC_seq, ↓PC_block, ↓PC_loop, ↓PC_scope, ↓PC_cond, ↓thenC_norm, ↓thenC_ret, ↓thenC_exit, ↓blockC_norm, ↓blockC_ret, ↓blockC_exit, ↓loopC_norm, ↓loopC_ret, ↓loopC_exit, ↓endR_ret, ↓endR_norm, resK_none, resK_t, resK_tt, KNO_val, KNO_new, KNO_ite, KNO_map, KXO_some, KXO_ite, KVA_t, KVA_f, KG_skip, KG_tt, KG_ff, KG_tf, KG_ft, KB_true, KB_false, KNOD_val, KNOD_new, KNOD_ite, n_mv, n_pick, n_bin, n_eqB, n_eqN, n_eqS, n_un, n_conv, n_fadd, n_faddV, n_fld1, n_fldN, n_idx, n_idxA, n_idxV, n_idxAV, n_ext, n_lenS, n_lenS0, n_lenV, n_lenT, n_lenA, n_min, n_max, n_build, n_mkfn, n_slc, n_slc0, n_slcV, n_slcA, n_load1, n_loadN, n_load1V, n_loadNV, n_alloc, n_box, n_bsl, n_mksl, n_nilcP, n_nilcV, n_nilcI, n_nilcF, x_store, x_clear0, x_clear, b_add, b_sub, b_mul, b_eql, b_neq, b_lss, b_leq, b_gtr, b_geq, b_and16, unV, ntouch, gather, hide, unhide, evalOpd, applyOuts, int_bne, int_beq, ite_bool, ite_int, one_bool, cells_bool, one_int, cells_int, one_str, cells_str, one_nilp, cells_nilp, one_ptr, cells_ptr, one_nils, cells_nils, one_sl, cells_sl, one_nilf, cells_nilf, one_fn, cells_fn, one_nili, cells_nili, one_mp, cells_mp, one_nilm, cells_nilm, one_iface, cells_iface, one_vs, cells_vs, one_vp, cells_vp, cells_agg, Nat.testBit, setAt_1, setAt_2, closeds_nil, closeds_cons, closed_bool, closed_int, closed_str, closed_nilp, closed_nils, closed_nilm, closed_nilf, closed_nili, closed_agg, closed_tup, closed_vs, closed_vp, closed_iface, closed_fn, closeds_cI, closeds_cE, viewA_closed, viewR_closed, AV.scal, AV.scal0, fillA, repA, part_bool, part_int, part_str, part_nilp, part_ptr, part_nils, part_sl, part_nilm, part_mp, part_nilf, part_fn, part_nili, part_iface, part_agg, part_vs, part_vp, viewA_sl1, vaSl_cells, wrap_0, wrap_1, wrap_2, wrap_m1, set_last, get_last, er54_0, er54_1, er54_2, er54_3, er54_4, er54_5, er54_6, er54_7, er54_8, er54_10, hlt', g0, va, c1, f0, f2, iy.one, iy.cells, iy.closed, hset, resK, resVs, resV, pack]
    refine hk _ (fun b hb => ?_) (by simp; omega)
    rw [List.getElem?_set_ne (by omega), hF b (by omega)]; exact hold b hb
theorem w_Contract (h : Has A (φ 45) (f45 φ)) (h1 : Has A (φ 58) (f58 φ)) (h2 : Has A (φ 54) (f54 φ)) (hN : NormalC A (φ 1)) (hRc : RightC A (φ 4)) (hH : ∀ n a b v es, IsE v es → PVal A (φ 7) [gV n v, .int .i64 a, .int .i64 b] (.bool (hasE n es a b)))
    (n : Int) (v : AV) (es : List Ed) (hv : IsE v es) (a b : Int) :
    PVal A (φ 45) [gV n v, .int .i64 a, .int .i64 b] (gR (contractE n es a b)) := by
  have hone := hv.one
  have hcl := hv.closed
  have cR := (hRc n v es hv).eq
  have cH := (hH n a b v es hv).eq
  have m1 := minV_i a b
  have m2 := maxV_i a b
  have hnil : rE ([] : List Ed) = AV.nils := rfl
  have hdef : contractE n es a b = if rightE n es = false then (0, [], 1) else if min a b < 0 ∨ n ≤ max a b then (0, [], 4) else if hasE n es a b = false then (0, [], 6) else normalE (n - 1) (mapE (conI (min a b) (max a b)) es) := rfl
  generalize min a b = lo at *
  generalize max a b = hi at *
  refine pval_has h rfl ?_
  simp only [b45, f45]
  by_cases hR : rightE n es = true
  · have hn := right_len hR
    have hrb := right_ends hR
    simp [hR] at cR
    rw [if_neg (by simp [hR])] at hdef
    by_cases hb : lo < 0 ∨ n ≤ hi
    · rw [if_pos hb] at hdef
      by_cases q1 : lo < 0
      · simp [↓getD_z, ↓getD_s, -List.getD_eq_getElem?_getD, -Int.ofNat_toNat, -getElem?_pos, gz, ↓hid_k, ↓hid_o, ↓hid_q, ↓hid_v, ↓PO_nil, ↓PO_none, ↓PO_grd, ↓PD_nil, ↓PD_none, ↓PD_grd, ↓PDO_N, ↓PDO_X, ↓PDO_call, ↓PDO_calli, ↓PDO_callv, PDX_free, PDX_eq, ↓PStep_N, ↓PStep_X, ↓PStep_call, ↓PStep_calli, PStep_callv, ↓PC_skip, ↓PC_lab, ↓PC_ret, ↓PC_exit, ↓PC_reg, ↓PC_draw, ↓PC_seq, ↓PC_block, ↓PC_loop, ↓PC_scope, ↓PC_cond, ↓thenC_norm, ↓thenC_ret, ↓thenC_exit, ↓blockC_norm, ↓blockC_ret, ↓blockC_exit, ↓loopC_norm, ↓loopC_ret, ↓loopC_exit, ↓endR_ret, ↓endR_norm, resK_none, resK_t, resK_tt, KNO_val, KNO_new, KNO_ite, KNO_map, KXO_some, KXO_ite, KVA_t, KVA_f, KG_skip, KG_tt, KG_ff, KG_tf, KG_ft, KB_true, KB_false, KNOD_val, KNOD_new, KNOD_ite, n_mv, n_pick, n_bin, n_eqB, n_eqN, n_eqS, n_un, n_conv, n_fadd, n_faddV, n_fld1, n_fldN, n_idx, n_idxA, n_idxV, n_idxAV, n_ext, n_lenS, n_lenS0, n_lenV, n_lenT, n_lenA, n_min, n_max, n_build, n_mkfn, n_slc, n_slc0, n_slcV, n_slcA, n_load1, n_loadN, n_load1V, n_loadNV, n_alloc, n_box, n_bsl, n_mksl, n_nilcP, n_nilcV, n_nilcI, n_nilcF, x_store, x_clear0, x_clear, b_add, b_sub, b_mul, b_eql, b_neq, b_lss, b_leq, b_gtr, b_geq, b_and16, unV, ntouch, gather, hide, unhide, evalOpd, applyOuts, int_bne, int_beq, ite_bool, ite_int, one_bool, cells_bool, one_int, cells_int, one_str, cells_str, one_nilp, cells_nilp, one_ptr, cells_ptr, one_nils, cells_nils, one_sl, cells_sl, one_nilf, cells_nilf, one_fn, cells_fn, one_nili, cells_nili, one_mp, cells_mp, one_nilm, cells_nilm, one_iface, cells_iface, one_vs, cells_vs, one_vp, cells_vp, cells_agg, Nat.testBit, setAt_1, setAt_2, closeds_nil, closeds_cons, closed_bool, closed_int, closed_str, closed_nilp, closed_nils, closed_nilm, closed_nilf, closed_nili, closed_agg, closed_tup, closed_vs, closed_vp, closed_iface, closed_fn, closeds_cI, closeds_cE, viewA_closed, viewR_closed, AV.scal, AV.scal0, fillA, repA, part_bool, part_int, part_str, part_nilp, part_ptr, part_nils, part_sl, part_nilm, part_mp, part_nilf, part_fn, part_nili, part_iface, part_agg, part_vs, part_vp, viewA_sl1, vaSl_cells, wrap_0, wrap_1, wrap_2, wrap_m1, set_last, get_last, er45_0, er45_1, er45_2, er45_3, er45_4, er45_5, er45_6, er45_7, er45_8, hone, hcl, cR, m1, m2, foldV, q1, hdef, hnil, resK, resVs, resV, pack, viewG0]
      · have q2 : n ≤ hi := by omega
        simp [↓getD_z, ↓getD_s, -List.getD_eq_getElem?_getD, -Int.ofNat_toNat, -getElem?_pos, gz, ↓hid_k, ↓hid_o, ↓hid_q, ↓hid_v, ↓PO_nil, ↓PO_none, ↓PO_grd, ↓PD_nil, ↓PD_none, ↓PD_grd, ↓PDO_N, ↓PDO_X, ↓PDO_call, ↓PDO_calli, ↓PDO_callv, PDX_free, PDX_eq, ↓PStep_N, ↓PStep_X, ↓PStep_call, ↓PStep_calli, PStep_callv, ↓PC_skip, ↓PC_lab, ↓PC_ret, ↓PC_exit, ↓PC_reg, ↓PC_draw, ↓PC_seq, ↓PC_block, ↓PC_loop, ↓PC_scope, ↓PC_cond, ↓thenC_norm, ↓thenC_ret, ↓thenC_exit, ↓blockC_norm, ↓blockC_ret, ↓blockC_exit, ↓loopC_norm, ↓loopC_ret, ↓loopC_exit, ↓endR_ret, ↓endR_norm, resK_none, resK_t, resK_tt, KNO_val, KNO_new, KNO_ite, KNO_map, KXO_some, KXO_ite, KVA_t, KVA_f, KG_skip, KG_tt, KG_ff, KG_tf, KG_ft, KB_true, KB_false, KNOD_val, KNOD_new, KNOD_ite, n_mv, n_pick, n_bin, n_eqB, n_eqN, n_eqS, n_un, n_conv, n_fadd, n_faddV, n_fld1, n_fldN, n_idx, n_idxA, n_idxV, n_idxAV, n_ext, n_lenS, n_lenS0, n_lenV, n_lenT, n_lenA, n_min, n_max, n_build, n_mkfn, n_slc, n_slc0, n_slcV, n_slcA, n_load1, n_loadN, n_load1V, n_loadNV, n_alloc, n_box, n_bsl, n_mksl, n_nilcP, n_nilcV, n_nilcI, n_nilcF, x_store, x_clear0, x_clear, b_add, b_sub, b_mul, b_eql, b_neq, b_lss, b_leq, b_gtr, b_geq, b_and16, unV, ntouch, gather, hide, unhide, evalOpd, applyOuts, int_bne, int_beq, ite_bool, ite_int, one_bool, cells_bool, one_int, cells_int, one_str, cells_str, one_nilp, cells_nilp, one_ptr, cells_ptr, one_nils, cells_nils, one_sl, cells_sl, one_nilf, cells_nilf, one_fn, cells_fn, one_nili, cells_nili, one_mp, cells_mp, one_nilm, cells_nilm, one_iface, cells_iface, one_vs, cells_vs, one_vp, cells_vp, cells_agg, Nat.testBit, setAt_1, setAt_2, closeds_nil, closeds_cons, closed_bool, closed_int, closed_str, closed_nilp, closed_nils, closed_nilm, closed_nilf, closed_nili, closed_agg, closed_tup, closed_vs, closed_vp, closed_iface, closed_fn, closeds_cI, closeds_cE, viewA_closed, viewR_closed, AV.scal, AV.scal0, fillA, repA, part_bool, part_int, part_str, part_nilp, part_ptr, part_nils, part_sl, part_nilm, part_mp, part_nilf, part_fn, part_nili, part_iface, part_agg, part_vs, part_vp, viewA_sl1, vaSl_cells, wrap_0, wrap_1, wrap_2, wrap_m1, set_last, get_last, er45_0, er45_1, er45_2, er45_3, er45_4, er45_5, er45_6, er45_7, er45_8, hone, hcl, cR, m1, m2, foldV, q1, q2, hdef, hnil, resK, resVs, resV, pack, viewG0]
    · rw [if_neg hb] at hdef
      have q1 : ¬ lo < 0 := fun h => hb (.inl h)
      have q2 : ¬ n ≤ hi := fun h => hb (.inr h)
      have hw : IntKind.i64.wrap (n - 1) = n - 1 := wrap_in (by omega) (by omega)
      cases hh : hasE n es a b with
      | false =>
        rw [hh] at cH
        rw [if_pos hh] at hdef
        simp [↓getD_z, ↓getD_s, -List.getD_eq_getElem?_getD, -Int.ofNat_toNat, -getElem?_pos, gz, ↓hid_k, ↓hid_o, ↓hid_q, ↓hid_v, ↓PO_nil, ↓PO_none, ↓PO_grd, ↓PD_nil, ↓PD_none, ↓PD_grd, ↓PDO_N, ↓PDO_X, ↓PDO_call, ↓PDO_calli, ↓PDO_callv, PDX_free, PDX_eq, ↓PStep_N, ↓PStep_X, ↓PStep_call, ↓PStep_calli, PStep_callv, ↓PC_skip, ↓PC_lab, ↓PC_ret, ↓PC_exit, ↓PC_reg, ↓PC_draw, ↓PC_seq, ↓PC_block, ↓PC_loop, ↓PC_scope, ↓PC_cond, ↓thenC_norm, ↓thenC_ret, ↓thenC_exit, ↓blockC_norm, ↓blockC_ret, ↓blockC_exit, ↓loopC_norm, ↓loopC_ret, ↓loopC_exit, ↓endR_ret, ↓endR_norm, resK_none, resK_t, resK_tt, KNO_val, KNO_new, KNO_ite, KNO_map, KXO_some, KXO_ite, KVA_t, KVA_f, KG_skip, KG_tt, KG_ff, KG_tf, KG_ft, KB_true, KB_false, KNOD_val, KNOD_new, KNOD_ite, n_mv, n_pick, n_bin, n_eqB, n_eqN, n_eqS, n_un, n_conv, n_fadd, n_faddV, n_fld1, n_fldN, n_idx, n_idxA, n_idxV, n_idxAV, n_ext, n_lenS, n_lenS0, n_lenV, n_lenT, n_lenA, n_min, n_max, n_build, n_mkfn, n_slc, n_slc0, n_slcV, n_slcA, n_load1, n_loadN, n_load1V, n_loadNV, n_alloc, n_box, n_bsl, n_mksl, n_nilcP, n_nilcV, n_nilcI, n_nilcF, x_store, x_clear0, x_clear, b_add, b_sub, b_mul, b_eql, b_neq, b_lss, b_leq, b_gtr, b_geq, b_and16, unV, ntouch, gather, hide, unhide, evalOpd, applyOuts, int_bne, int_beq, ite_bool, ite_int, one_bool, cells_bool, one_int, cells_int, one_str, cells_str, one_nilp, cells_nilp, one_ptr, cells_ptr, one_nils, cells_nils, one_sl, cells_sl, one_nilf, cells_nilf, one_fn, cells_fn, one_nili, cells_nili, one_mp, cells_mp, one_nilm, cells_nilm, one_iface, cells_iface, one_vs, cells_vs, one_vp, cells_vp, cells_agg, Nat.testBit, setAt_1, setAt_2, closeds_nil, closeds_cons, closed_bool, closed_int, closed_str, closed_nilp, closed_nils, closed_nilm, closed_nilf, closed_nili, closed_agg, closed_tup, closed_vs, closed_vp, closed_iface, closed_fn, closeds_cI, closeds_cE, viewA_closed, viewR_closed, AV.scal, AV.scal0, fillA, repA, part_bool, part_int, part_str, part_nilp, part_ptr, part_nils, part_sl, part_nilm, part_mp, part_nilf, part_fn, part_nili, part_iface, part_agg, part_vs, part_vp, viewA_sl1, vaSl_cells, wrap_0, wrap_1, wrap_2, wrap_m1, set_last, get_last, er45_0, er45_1, er45_2, er45_3, er45_4, er45_5, er45_6, er45_7, er45_8, hone, hcl, cR, cH, m1, m2, foldV, q1, q2, hdef, hnil, resK, resVs, resV, pack, viewG0]
      | true =>
        rw [hh] at cH
        rw [if_neg (by simp [hh])] at hdef
        simp [↓getD_z, ↓getD_s, -List.getD_eq_getElem?_getD, -Int.ofNat_toNat, -getElem?_pos, gz, ↓hid_k, ↓hid_o, ↓hid_q, ↓hid_v, ↓PO_nil, ↓PO_none, ↓PO_grd, ↓PD_nil, ↓PD_none, ↓PD_grd, ↓PDO_N, ↓PDO_X, ↓PDO_call, ↓PDO_calli, ↓PDO_callv, PDX_free, PDX_eq, ↓PStep_N, ↓PStep_X, ↓PStep_call, ↓PStep_calli, PStep_callv, ↓PC_skip, ↓PC_lab, ↓PC_ret, ↓PC_exit, ↓PC_reg, ↓PC_draw, ↓PC_seq, ↓PC_block, ↓PC_loop, ↓PC_scope, ↓PC_cond, ↓thenC_norm, ↓thenC_ret, ↓thenC_exit, ↓blockC_norm, ↓blockC_ret, ↓blockC_exit, ↓loopC_norm, ↓loopC_ret, ↓loopC_exit, ↓endR_ret, ↓endR_norm, resK_none, resK_t, resK_tt, KNO_val, KNO_new, KNO_ite, KNO_map, KXO_some, KXO_ite, KVA_t, KVA_f, KG_skip, KG_tt, KG_ff, KG_tf, KG_ft, KB_true, KB_false, KNOD_val, KNOD_new, KNOD_ite, n_mv, n_pick, n_bin, n_eqB, n_eqN, n_eqS, n_un, n_conv, n_fadd, n_faddV, n_fld1, n_fldN, n_idx, n_idxA, n_idxV, n_idxAV, n_ext, n_lenS, n_lenS0, n_lenV, n_lenT, n_lenA, n_min, n_max, n_build, n_mkfn, n_slc, n_slc0, n_slcV, n_slcA, n_load1, n_loadN, n_load1V, n_loadNV, n_alloc, n_box, n_bsl, n_mksl, n_nilcP, n_nilcV, n_nilcI, n_nilcF, x_store, x_clear0, x_clear, b_add, b_sub, b_mul, b_eql, b_neq, b_lss, b_leq, b_gtr, b_geq, b_and16, unV, ntouch, gather, hide, unhide, evalOpd, applyOuts, int_bne, int_beq, ite_bool, ite_int, one_bool, cells_bool, one_int, cells_int, one_str, cells_str, one_nilp, cells_nilp, one_ptr, cells_ptr, one_nils, cells_nils, one_sl, cells_sl, one_nilf, cells_nilf, one_fn, cells_fn, one_nili, cells_nili, one_mp, cells_mp, one_nilm, cells_nilm, one_iface, cells_iface, one_vs, cells_vs, one_vp, cells_vp, cells_agg, Nat.testBit, setAt_1, setAt_2, closeds_nil, closeds_cons, closed_bool, closed_int, closed_str, closed_nilp, closed_nils, closed_nilm, closed_nilf, closed_nili, closed_agg, closed_tup, closed_vs, closed_vp, closed_iface, closed_fn, closeds_cI, closeds_cE, viewA_closed, viewR_closed, AV.scal, AV.scal0, fillA, repA, part_bool, part_int, part_str, part_nilp, part_ptr, part_nils, part_sl, part_nilm, part_mp, part_nilf, part_fn, part_nili, part_iface, part_agg, part_vs, part_vp, viewA_sl1, vaSl_cells, wrap_0, wrap_1, wrap_2, wrap_m1, set_last, get_last, er45_0, er45_1, er45_2, er45_3, er45_4, er45_5, er45_6, er45_7, er45_8, hone, hcl, cR, cH, m1, m2, foldV, q1, q2, hw]
        refine w_renamed2 h2 hN (conI lo hi) (φ 58) (.ptr 3 0 0) (.ptr 2 0 0) (n - 1) n v es hv hn.2.2 _ rfl rfl (fun e he y hy H' K' hsame hK => ?_) (fun H' hsame hle => ?_)
        · have he' := hrb e he
          refine w_Con1 h1 y lo hi (by omega) H' K' ?_ ?_ hK
          · rw [hsame 3 (by simp)]; rfl
          · rw [hsame 2 (by simp)]; rfl
        · have b1 : H'[1]? = some (.cells 0 false [.int .i64 0, .nils]) := by rw [hsame 1 (by simp)]; rfl
          have hset : ∀ z, (H'.set 1 z)[1]? = some z := fun z => List.getElem?_set_self (lt_of_get b1)
          simp only [hid_k, nR]
          rw [hdef]
          generalize normalE (n - 1) (mapE (conI lo hi) es) = y at *
          have iy := isE_r y.2.1
          simp [↓getD_z, ↓getD_s, -List.getD_eq_getElem?_getD, -Int.ofNat_toNat, -getElem?_pos, gz, ↓hid_k, ↓hid_o, ↓hid_q, ↓hid_v, ↓PO_nil, ↓PO_none, ↓PO_grd, ↓PD_nil, ↓PD_none, ↓PD_grd, ↓PDO_N, ↓PDO_X, ↓PDO_call, ↓PDO_calli, ↓PDO_callv, PDX_free, PDX_eq, ↓PStep_N, ↓PStep_X, ↓PStep_call, ↓PStep_calli, PStep_callv, ↓PC_skip, ↓PC_lab, ↓PC_ret, ↓PC_exit, ↓PC_reg, ↓PC_draw, ↓PC_seq, ↓PC_block, ↓PC_loop, ↓PC_scope, ↓PC_cond, ↓thenC_norm, ↓thenC_ret, ↓thenC_exit, ↓blockC_norm, ↓blockC_ret, ↓blockC_exit, ↓loopC_norm, ↓loopC_ret, ↓loopC_exit, ↓endR_ret, ↓endR_norm, resK_none, resK_t, resK_tt, KNO_val, KNO_new, KNO_ite, KNO_map, KXO_some, KXO_ite, KVA_t, KVA_f, KG_skip, KG_tt, KG_ff, KG_tf, KG_ft, KB_true, KB_false, KNOD_val, KNOD_new, KNOD_ite, n_mv, n_pick, n_bin, n_eqB, n_eqN, n_eqS, n_un, n_conv, n_fadd, n_faddV, n_fld1, n_fldN, n_idx, n_idxA, n_idxV, n_idxAV, n_ext, n_lenS, n_lenS0, n_lenV, n_lenT, n_lenA, n_min, n_max, n_build, n_mkfn, n_slc, n_slc0, n_slcV, n_slcA, n_load1, n_loadN, n_load1V, n_loadNV, n_alloc, n_box, n_bsl, n_mksl, n_nilcP, n_nilcV, n_nilcI, n_nilcF, x_store, x_clear0, x_clear, b_add, b_sub, b_mul, b_eql, b_neq, b_lss, b_leq, b_gtr, b_geq, b_and16, unV, ntouch, gather, hide, unhide, evalOpd, applyOuts, int_bne, int_beq, ite_bool, ite_int, one_bool, cells_bool, one_int, cells_int, one_str, cells_str, one_nilp, cells_nilp, one_ptr, cells_ptr, one_nils, cells_nils, one_sl, cells_sl, one_nilf, cells_nilf, one_fn, cells_fn, one_nili, cells_nili, one_mp, cells_mp, one_nilm, cells_nilm, one_iface, cells_iface, one_vs, cells_vs, one_vp, cells_vp, cells_agg, Nat.testBit, setAt_1, setAt_2, closeds_nil, closeds_cons, closed_bool, closed_int, closed_str, closed_nilp, closed_nils, closed_nilm, closed_nilf, closed_nili, closed_agg, closed_tup, closed_vs, closed_vp, closed_iface, closed_fn, closeds_cI, closeds_cE, viewA_closed, viewR_closed, AV.scal, AV.scal0, fillA, repA, part_bool, part_int, part_str, part_nilp, part_ptr, part_nils, part_sl, part_nilm, part_mp, part_nilf, part_fn, part_nili, part_iface, part_agg, part_vs, part_vp, viewA_sl1, vaSl_cells, wrap_0, wrap_1, wrap_2, wrap_m1, set_last, get_last, er45_0, er45_1, er45_2, er45_3, er45_4, er45_5, er45_6, er45_7, er45_8, b1, hset, iy.one, iy.cells, iy.closed, resK, resVs, resV, pack]
  · simp only [Bool.not_eq_true] at hR
    rw [if_pos hR] at hdef
    simp [hR] at cR
    simp [↓getD_z, ↓getD_s, -List.getD_eq_getElem?_getD, -Int.ofNat_toNat, -getElem?_pos, gz, ↓hid_k, ↓hid_o, ↓hid_q, ↓hid_v, ↓PO_nil, ↓PO_none, ↓PO_grd, ↓PD_nil, ↓PD_none, ↓PD_grd, ↓PDO_N, ↓PDO_X, ↓PDO_call, ↓PDO_calli, ↓PDO_callv, PDX_free, PDX_eq, ↓PStep_N, ↓PStep_X, ↓PStep_call, ↓PStep_calli, PStep_callv, ↓PC_skip, ↓PC_lab, ↓PC_ret, ↓PC_exit, ↓PC_reg, ↓PC_draw, ↓PC_seq, ↓PC_block, ↓PC_loop, ↓PC_scope, ↓PC_cond, ↓thenC_norm, ↓thenC_ret, ↓thenC_exit, ↓blockC_norm, ↓blockC_ret, ↓blockC_exit, ↓loopC_norm, ↓loopC_ret, ↓loopC_exit, ↓endR_ret, ↓endR_norm, resK_none, resK_t, resK_tt, KNO_val, KNO_new, KNO_ite, KNO_map, KXO_some, KXO_ite, KVA_t, KVA_f, KG_skip, KG_tt, KG_ff, KG_tf, KG_ft, KB_true, KB_false, KNOD_val, KNOD_new, KNOD_ite, n_mv, n_pick, n_bin, n_eqB, n_eqN, n_eqS, n_un, n_conv, n_fadd, n_faddV, n_fld1, n_fldN, n_idx, n_idxA, n_idxV, n_idxAV, n_ext, n_lenS, n_lenS0, n_lenV, n_lenT, n_lenA, n_min, n_max, n_build, n_mkfn, n_slc, n_slc0, n_slcV, n_slcA, n_load1, n_loadN, n_load1V, n_loadNV, n_alloc, n_box, n_bsl, n_mksl, n_nilcP, n_nilcV, n_nilcI, n_nilcF, x_store, x_clear0, x_clear, b_add, b_sub, b_mul, b_eql, b_neq, b_lss, b_leq, b_gtr, b_geq, b_and16, unV, ntouch, gather, hide, unhide, evalOpd, applyOuts, int_bne, int_beq, ite_bool, ite_int, one_bool, cells_bool, one_int, cells_int, one_str, cells_str, one_nilp, cells_nilp, one_ptr, cells_ptr, one_nils, cells_nils, one_sl, cells_sl, one_nilf, cells_nilf, one_fn, cells_fn, one_nili, cells_nili, one_mp, cells_mp, one_nilm, cells_nilm, one_iface, cells_iface, one_vs, cells_vs, one_vp, cells_vp, cells_agg, Nat.testBit, setAt_1, setAt_2, closeds_nil, closeds_cons, closed_bool, closed_int, closed_str, closed_nilp, closed_nils, closed_nilm, closed_nilf, closed_nili, closed_agg, closed_tup, closed_vs, closed_vp, closed_iface, closed_fn, closeds_cI, closeds_cE, viewA_closed, viewR_closed, AV.scal, AV.scal0, fillA, repA, part_bool, part_int, part_str, part_nilp, part_ptr, part_nils, part_sl, part_nilm, part_mp, part_nilf, part_fn, part_nili, part_iface, part_agg, part_vs, part_vp, viewA_sl1, vaSl_cells, wrap_0, wrap_1, wrap_2, wrap_m1, set_last, get_last, er45_0, er45_1, er45_2, er45_3, er45_4, er45_5, er45_6, er45_7, er45_8, hone, hcl, cR, hdef, hnil, resK, resVs, resV, pack, viewG0]
end Go.Ai.G
/- SubWrong. -/
namespace Go.Ai.G
open Go.Ai
set_option maxRecDepth 100000
set_option linter.unusedSimpArgs false
set_option linter.unusedVariables false
variable {A : AProg} {φ : Nat → Nat}
theorem frzH_app (H : Heap) : ∀ (l1 l2 : List Nat), frzH (l1 ++ l2) H = frzH l2 (frzH l1 H) := by
  intro l1
  induction l1 generalizing H with
  | nil => intro l2; rfl
  | cons a l ih => intro l2; simp only [List.cons_append, frzH]; exact ih _ l2
theorem frz_loc {H H' : Heap} {o : AV} {b : Nat} (hl : H.length = H'.length) (h : H[b]? = H'[b]?) (hb : blkOf o = some b) : (frzOf H o)[b]? = (frzOf H' o)[b]? := by
  unfold frzOf
  rw [hb]
  simp only [frzH]
  rw [← h]
  cases hx : H[b]? with
  | none => simp only; rw [← h, hx]
  | some x =>
    have hlt := lt_of_get hx
    cases x with
    | cells gg ro c =>
      cases ro with
      | true => simp only; rw [← h, hx]
      | false => simp only; rw [List.getElem?_set_self hlt, List.getElem?_set_self (by omega)]
    | _ => simp only; rw [← h, hx]
theorem frz_comm (H : Heap) {o s : AV} (hd : ∀ b, blkOf o = some b → blkOf s ≠ some b) : frzOf (frzOf H o) s = frzOf (frzOf H s) o := by
  apply List.ext_getElem?
  intro i
  by_cases h1 : blkOf o = some i
  · have h2 := hd i h1
    rw [frzOf_get _ _ h2]
    exact frz_loc (by rw [frzOf_len]) (frzOf_get H s h2).symm h1
  · rw [frzOf_get (frzOf H s) o h1]
    by_cases h2 : blkOf s = some i
    · exact (frz_loc (by rw [frzOf_len]) (frzOf_get H o h1).symm h2).symm
    · rw [frzOf_get _ _ h2, frzOf_get _ _ h2, frzOf_get _ _ h1]
theorem Vw.two {H : Heap} {nl nl2 : Bool} {o s : AV} {n m : Nat} {c d : List AV} (h : Vw nl H o 2 n c) (hc : AV.closeds c = true) (hs : Vw nl2 H s 1 m d) (hdc : AV.closeds d = true) (hd : ∀ b, blkOf o = some b → blkOf s ≠ some b) (k : Int) :
    viewA H [.agg [.int .i64 k, o], s] = some ([.agg [.int .i64 k, rv nl n 2 c], rv nl2 m 1 d], frzOf (frzOf H o) s) := by
  rw [viewA_def]
  have e1 : reachL H fuelV [.agg [.int .i64 k, o], s] = (blkOf o).toList ++ (blkOf s).toList := by
    rw [show fuelV = 11 + 1 from rfl, reachL_cons, reachL_cons, reachL_nil, List.append_nil, show (11 : Nat) = 10 + 1 from rfl, reachV_agg, show (10 : Nat) = 9 + 1 from rfl, reachL_cons, reachL_cons, reachL_nil, List.append_nil, reachV_closed _ (by rfl), List.nil_append, show (9 : Nat) = 8 + 1 from rfl, h.reach hc, show (8 + 1 + 1 + 1 : Nat) = 10 + 1 from rfl, hs.reach hdc]
  have e2 : frzH ((blkOf o).toList ++ (blkOf s).toList) H = frzOf (frzOf H o) s := by rw [frzH_app, frzH_toList, frzH_toList]
  rw [e1, e2]
  have ho2 : Vw nl (frzOf H s) o 2 n c := h.keep fun b hb => frzOf_get H s (hd b hb)
  have hs2 : Vw nl2 (frzOf H o) s 1 m d := hs.keep fun b hb => frzOf_get H o (fun h' => hd b h' hb)
  have v1 : ∀ j, viewV (frzOf (frzOf H o) s) (j + 2) o = some (rv nl n 2 c) := fun j => by rw [frz_comm H hd]; exact ho2.seen hc j
  have v2 : ∀ j, viewV (frzOf (frzOf H o) s) (j + 2) s = some (rv nl2 m 1 d) := fun j => hs2.seen hdc j
  have w1 : viewV (frzOf (frzOf H o) s) (9 + 2) (.agg [.int .i64 k, o]) = some (.agg [.int .i64 k, rv nl n 2 c]) := by
    rw [viewV_agg, show (9 + 1 : Nat) = 8 + 2 from rfl, viewL_cons, viewV_closed _ (by rfl), viewL_cons, show (8 + 1 : Nat) = 7 + 2 from rfl, v1 7, viewL_closed _ (show AV.closeds [] = true from rfl)]
    rfl
  rw [show fuelV = 10 + 2 from rfl, viewL_cons, show (10 + 1 : Nat) = 9 + 2 from rfl, w1, viewL_cons, v2 9, viewL_closed _ (show AV.closeds [] = true from rfl)]
  rfl
structure SW (A : AProg) (φ : Nat → Nat) : Prop where
  l : SL A φ
  con : ∀ n a b v es, IsE v es → PVal A (φ 45) [gV n v, .int .i64 a, .int .i64 b] (gR (contractE n es a b))
  rright : RightC A (φ 6)
  rhas : ∀ n a b v es, IsE v es → PVal A (φ 8) [gV n v, .int .i64 a, .int .i64 b] (.bool (hasE n es a b))
end Go.Ai.G
/- GraphTurned. -/
namespace Go.Ai.G
open Go.Ai
set_option maxRecDepth 100000
set_option linter.unusedSimpArgs false
set_option linter.unusedVariables false
variable {A : AProg} {φ : Nat → Nat}
end Go.Ai.G
/- GraphSum. -/
namespace Go.Ai.G
open Go.Ai
set_option maxRecDepth 100000
set_option linter.unusedSimpArgs false
set_option linter.unusedVariables false
variable {A : AProg} {φ : Nat → Nat}
theorem nbo_strict (v : Int) (es : List Ed) (hp : es.Pairwise ltE) (hx : ∀ x ∈ es, x.1 < x.2) : (es.flatMap (nbo v)).Pairwise (· < ·) := by
  rw [List.pairwise_flatMap]
  constructor
  · intro x hm
    have := hx x hm
    unfold nbo
    by_cases h1 : x.2 = v
    · rw [if_pos h1, if_neg (by omega)]; simp
    · rw [if_neg h1]; split <;> simp
  · refine List.Pairwise.imp_of_mem ?_ hp
    intro x y hmx hmy hl p hp q hq
    have h1 := hx x hmx
    have h2 := hx y hmy
    unfold ltE at hl
    simp only [nbo, List.mem_append] at hp hq
    by_cases a1 : x.2 = v <;> by_cases a2 : x.1 = v <;> by_cases a3 : y.2 = v <;> by_cases a4 : y.1 = v <;> simp [a1, a2, a3, a4] at hp hq <;> omega
theorem nb_mem {n : Int} {es : List Ed} (hR : rightE n es = true) (v w : Int) : w ∈ sortI (nbR v es) ↔ (v, w) ∈ es ∨ (w, v) ∈ es := by
  have := has_eq n es v w
  unfold nearI hasE at this
  rw [hR, if_pos rfl, near_sort v hR, Bool.true_and] at this
  rw [← List.contains_iff_mem, this]
  simp
theorem nb_strict {n : Int} {es : List Ed} (hR : rightE n es = true) (v : Int) : (sortI (nbR v es)).Pairwise (· < ·) := by
  rw [← near_sort v hR, nbs_all v es (right_strict hR) (right_lt hR)]
  exact nbo_strict v es (right_strict hR) (right_lt hR)
end Go.Ai.G
/- SubCounts, the pure law. -/
namespace Go.Ai.G
open Go.Ai
set_option maxRecDepth 100000
set_option linter.unusedSimpArgs false
set_option linter.unusedVariables false
variable {A : AProg} {φ : Nat → Nat}
theorem len_of_mem {α : Type} [DecidableEq α] : ∀ (l m : List α), l.Nodup → m.Nodup → (∀ x, x ∈ l ↔ x ∈ m) → l.length = m.length
  | [], m, _, _, h => by
    cases m with
    | nil => rfl
    | cons y m => have := (h y).2 (List.mem_cons_self ..); simp at this
  | x :: l, m, hl, hm, h => by
    rw [List.nodup_cons] at hl
    have hx : x ∈ m := (h x).1 (List.mem_cons_self ..)
    have he := len_of_mem l (m.erase x) hl.2 (hm.erase x) fun y => by
      rw [hm.mem_erase_iff]
      constructor
      · intro hy
        exact ⟨fun e => hl.1 (e ▸ hy), (h y).1 (List.mem_cons_of_mem _ hy)⟩
      · rintro ⟨h1, h2⟩
        rcases List.mem_cons.1 ((h y).2 h2) with h3 | h3
        · exact absurd h3 h1
        · exact h3
    rw [List.length_erase_of_mem hx] at he
    have := List.length_pos_of_mem hx
    simp only [List.length_cons]; omega
theorem del_count {w : Int} : ∀ (E : List Ed), (∀ e ∈ E, 0 ≤ e.1 ∧ e.1 < e.2) → 0 ≤ w → (mapE (delI w) E).length + (nbR w E).length = E.length
  | [], _, _ => rfl
  | e :: l, h, hw => by
    have ih := del_count l (fun x hx => h x (List.mem_cons_of_mem _ hx)) hw
    have he := h e (List.mem_cons_self ..)
    have h1 : mapE (delI w) (e :: l) = (if 0 ≤ delI w e.1 ∧ 0 ≤ delI w e.2 then [(delI w e.1, delI w e.2)] else []) ++ mapE (delI w) l := by
      unfold mapE
      simp only [List.map_cons, List.filter_cons]
      by_cases q1 : 0 ≤ delI w e.1 <;> by_cases q2 : 0 ≤ delI w e.2 <;> simp [q1, q2]
    have h2 : nbR w (e :: l) = nbr w e ++ nbR w l := by simp [nbR]
    rw [h1, h2, List.length_append, List.length_append, List.length_cons]
    by_cases q1 : e.1 = w
    · have d1 : delI w e.1 = -1 := by unfold delI; rw [if_pos q1]
      rw [if_neg (by omega)]
      have : nbr w e = [e.2] := by unfold nbr; rw [if_pos q1, if_neg (by omega)]; rfl
      rw [this]; simp; omega
    · by_cases q2 : e.2 = w
      · have d1 : delI w e.2 = -1 := by unfold delI; rw [if_pos q2]
        rw [if_neg (by omega)]
        have : nbr w e = [e.1] := by unfold nbr; rw [if_neg q1, if_pos q2]; rfl
        rw [this]; simp; omega
      · have d1 : 0 ≤ delI w e.1 := by unfold delI; rw [if_neg q1]; split <;> omega
        have d2 : 0 ≤ delI w e.2 := by unfold delI; rw [if_neg q2]; split <;> omega
        rw [if_pos ⟨d1, d2⟩]
        have : nbr w e = [] := by unfold nbr; rw [if_neg q1, if_neg q2]; rfl
        rw [this]; simp; omega
/-- Is this one of the edges of w that are lost when w is made one with u? -/
def lost (E : List Ed) (u w : Int) (e : Ed) : Bool := (decide (e.1 = w) && (decide (e.2 = u) || decide ((e.2, u) ∈ E ∨ (u, e.2) ∈ E))) || (decide (e.2 = w) && (decide (e.1 = u) || decide ((e.1, u) ∈ E ∨ (u, e.1) ∈ E)))
def oth (w : Int) (e : Ed) : Int := if e.1 = w then e.2 else e.1
theorem con_inj {u w x y : Int} (hx : x ≠ w) (hy : y ≠ w) (h : conI u w x = conI u w y) : x = y := by
  unfold conI at h
  rw [if_neg hx, if_neg hy] at h
  split at h <;> split at h <;> omega
theorem con_w (u w : Int) : conI u w w = u := by unfold conI; rw [if_pos rfl]
theorem con_u {u w : Int} (h : u < w) : conI u w u = u := by unfold conI; rw [if_neg (by omega), if_neg (by omega)]
theorem con_pos {u w x : Int} (hu : 0 ≤ u) (hw : 0 ≤ w) (hx : 0 ≤ x) : 0 ≤ conI u w x := by
  unfold conI
  split <;> (try split) <;> omega
theorem strict_nodup {E : List Ed} (h : E.Pairwise ltE) : E.Nodup := h.imp (by intro a b hl e; subst e; exact ltE_irrefl _ hl)
theorem filt_len {α : Type} (p : α → Bool) : ∀ (l : List α), (l.filter fun x => !p x).length + (l.filter p).length = l.length
  | [] => rfl
  | x :: l => by
    have := filt_len p l
    simp only [List.filter_cons]
    cases p x <;> simp <;> omega
theorem lost_iff {E : List Ed} {u w : Int} (e : Ed) (he : e.1 < e.2) : lost E u w e = true ↔ (e.1 = w ∨ e.2 = w) ∧ (oth w e = u ∨ (oth w e, u) ∈ E ∨ (u, oth w e) ∈ E) := by
  unfold lost oth
  simp only [Bool.or_eq_true, Bool.and_eq_true, decide_eq_true_eq]
  by_cases h : e.1 = w
  · have h2 : ¬ e.2 = w := by omega
    simp [h, h2]
  · simp [h]
def nrmE (f : Int → Int) (e : Ed) : Ed := (min (f e.1) (f e.2), max (f e.1) (f e.2))
theorem con_count {n : Int} {E : List Ed} {u w : Int} (hR : rightE n E = true) (huw : (u, w) ∈ E) :
    (setE (mapE (conI u w) E)).length + 1 + ((sortI (nbR u E)).filter fun x => hasE n E x w).length = E.length := by
  have he := right_ends hR
  have hs := right_strict hR
  have hlt : u < w ∧ 0 ≤ u := by have := he _ huw; simp only at this; omega
  have hnd := strict_nodup hs
  have hB := filt_len (lost E u w) E
  have hC : (E.filter (lost E u w)).length = 1 + ((sortI (nbR u E)).filter fun x => hasE n E x w).length := by
    have e1 : ((E.filter (lost E u w)).map (oth w)).length = (u :: (sortI (nbR u E)).filter fun x => hasE n E x w).length := by
      refine len_of_mem _ _ ?_ ?_ fun x => ?_
      · rw [List.Nodup, List.pairwise_map]
        refine List.Pairwise.imp_of_mem ?_ (hnd.filter _)
        intro a b ha hb hne heq
        have a1 := he a (List.mem_filter.1 ha).1
        have b1 := he b (List.mem_filter.1 hb).1
        have a2 := ((lost_iff a (by omega)).1 (List.mem_filter.1 ha).2).1
        have b2 := ((lost_iff b (by omega)).1 (List.mem_filter.1 hb).2).1
        apply hne
        unfold oth at heq
        split at heq <;> split at heq <;> exact Prod.ext (by omega) (by omega)
      · rw [List.nodup_cons]
        refine ⟨fun h => ?_, ?_⟩
        · have := (nb_mem hR u u).1 (List.mem_filter.1 h).1
          rcases this with h | h <;> (have := he _ h; simp only at this; omega)
        · exact (List.Pairwise.filter _ (nb_strict hR u)).imp fun {a b} h e => by omega
      · rw [List.mem_map, List.mem_cons, List.mem_filter, nb_mem hR, hasE_iff hR]
        constructor
        · rintro ⟨e, hm, rfl⟩
          obtain ⟨m1, m2⟩ := List.mem_filter.1 hm
          have q := he e m1
          obtain ⟨l1, l2⟩ := (lost_iff e (by omega)).1 m2
          rcases l2 with l2 | l2
          · exact .inl l2
          · right
            refine ⟨l2.symm, ?_⟩
            unfold oth
            by_cases h : e.1 = w
            · rw [if_pos h]; right; rw [← h]; exact m1
            · rw [if_neg h]; left
              have h2 : e.2 = w := by rcases l1 with l1 | l1; · exact absurd l1 h
                                      · exact l1
              rw [← h2]; exact m1
        · rintro (rfl | ⟨h1, h2⟩)
          · refine ⟨(x, w), List.mem_filter.2 ⟨huw, ?_⟩, ?_⟩
            · rw [lost_iff _ (by simp only; omega)]; unfold oth; rw [if_neg (by simp only; omega)]; exact ⟨.inr rfl, .inl rfl⟩
            · unfold oth; rw [if_neg (by simp only; omega)]
          · rcases h2 with h2 | h2
            · have q := he _ h2
              simp only at q
              refine ⟨(x, w), List.mem_filter.2 ⟨h2, ?_⟩, ?_⟩
              · rw [lost_iff _ (by simp only; omega)]; unfold oth; rw [if_neg (by simp only; omega)]; exact ⟨.inr rfl, .inr h1.symm⟩
              · unfold oth; rw [if_neg (by simp only; omega)]
            · have q := he _ h2
              simp only at q
              refine ⟨(w, x), List.mem_filter.2 ⟨h2, ?_⟩, ?_⟩
              · rw [lost_iff _ (by simp only; omega)]; unfold oth; rw [if_pos rfl]; exact ⟨.inl rfl, .inr h1.symm⟩
              · unfold oth; rw [if_pos rfl]
    rw [List.length_map, List.length_cons] at e1
    omega
  have hA : (setE (mapE (conI u w) E)).length = (E.filter fun x => !lost E u w x).length := by
    rw [show (E.filter fun x => !lost E u w x).length = ((E.filter fun x => !lost E u w x).map (nrmE (conI u w))).length by rw [List.length_map]]
    have hfw := con_w u w
    have hfu := con_u hlt.1
    have hfx : ∀ x, x ≠ w → conI u w x = u → x = u := fun x hx h => con_inj hx (by omega) (h.trans hfu.symm)
    have hnl : ∀ e ∈ E, lost E u w e = false → (e.1 = w → e.2 ≠ u ∧ (e.2, u) ∉ E ∧ (u, e.2) ∉ E) ∧ (e.2 = w → e.1 ≠ u ∧ (e.1, u) ∉ E ∧ (u, e.1) ∉ E) := by
      intro e hm hl
      have q := he e hm
      have hl' : ¬ lost E u w e = true := by rw [hl]; simp
      rw [lost_iff e (by omega)] at hl'
      constructor
      · intro h
        have : oth w e = e.2 := by unfold oth; rw [if_pos h]
        rw [this] at hl'
        refine ⟨fun h2 => hl' ⟨.inl h, .inl h2⟩, fun h2 => hl' ⟨.inl h, .inr (.inl h2)⟩, fun h2 => hl' ⟨.inl h, .inr (.inr h2)⟩⟩
      · intro h
        have : oth w e = e.1 := by unfold oth; rw [if_neg (by omega)]
        rw [this] at hl'
        refine ⟨fun h2 => hl' ⟨.inr h, .inl h2⟩, fun h2 => hl' ⟨.inr h, .inr (.inl h2)⟩, fun h2 => hl' ⟨.inr h, .inr (.inr h2)⟩⟩
    refine len_of_mem _ _ (strict_nodup (setE_strict _)) ?_ fun x => ?_
    · rw [List.Nodup, List.pairwise_map]
      refine List.Pairwise.imp_of_mem ?_ (hnd.filter _)
      intro a b ha hb hne heq
      obtain ⟨a1, a2⟩ := List.mem_filter.1 ha
      obtain ⟨b1, b2⟩ := List.mem_filter.1 hb
      have qa := he a a1
      have qb := he b b1
      obtain ⟨ka1, ka2⟩ := hnl a a1 (by simpa using a2)
      obtain ⟨kb1, kb2⟩ := hnl b b1 (by simpa using b2)
      have hm := congrArg Prod.fst heq
      have hM := congrArg Prod.snd heq
      simp only [nrmE] at hm hM
      have hc : (conI u w a.1 = conI u w b.1 ∧ conI u w a.2 = conI u w b.2) ∨ (conI u w a.1 = conI u w b.2 ∧ conI u w a.2 = conI u w b.1) := by
        generalize conI u w a.1 = p1 at *
        generalize conI u w a.2 = p2 at *
        generalize conI u w b.1 = p3 at *
        generalize conI u w b.2 = p4 at *
        omega
      have hab : a.1 = b.1 → a.2 = b.2 → False := fun h1 h2 => hne (Prod.ext h1 h2)
      have memA : a = (a.1, a.2) := rfl
      have memB : b = (b.1, b.2) := rfl
      by_cases A1 : a.1 = w
      · have fa := hfw; rw [← A1] at fa
        have A2 : a.2 ≠ w := by omega
        obtain ⟨n1, n2, n3⟩ := ka1 A1
        by_cases B1 : b.1 = w
        · have B2 : b.2 ≠ w := by omega
          rcases hc with ⟨h1, h2⟩ | ⟨h1, h2⟩
          · exact hab (by omega) (con_inj A2 B2 h2)
          · rw [A1, hfw] at h1; exact (kb1 B1).1 (hfx _ B2 h1.symm)
        · by_cases B2 : b.2 = w
          · rcases hc with ⟨h1, h2⟩ | ⟨h1, h2⟩
            · rw [A1, hfw] at h1; exact (kb2 B2).1 (hfx _ B1 h1.symm)
            · have := con_inj A2 B1 h2; omega
          · rcases hc with ⟨h1, h2⟩ | ⟨h1, h2⟩
            · rw [A1, hfw] at h1
              have e1 := hfx _ B1 h1.symm
              have e2 := con_inj A2 B2 h2
              apply n3; rw [e2, ← e1]; exact b1
            · rw [A1, hfw] at h1
              have e1 := hfx _ B2 h1.symm
              have e2 := con_inj A2 B1 h2
              apply n2; rw [e2, ← e1]; exact b1
      · by_cases A2 : a.2 = w
        · obtain ⟨n1, n2, n3⟩ := ka2 A2
          by_cases B1 : b.1 = w
          · have B2 : b.2 ≠ w := by omega
            rcases hc with ⟨h1, h2⟩ | ⟨h1, h2⟩
            · rw [A2, hfw] at h2; exact (kb1 B1).1 (hfx _ B2 h2.symm)
            · have := con_inj A1 B2 h1; omega
          · by_cases B2 : b.2 = w
            · rcases hc with ⟨h1, h2⟩ | ⟨h1, h2⟩
              · exact hab (con_inj A1 B1 h1) (by omega)
              · rw [A2, hfw] at h2; exact (kb2 B2).1 (hfx _ B1 h2.symm)
            · rcases hc with ⟨h1, h2⟩ | ⟨h1, h2⟩
              · rw [A2, hfw] at h2
                have e1 := hfx _ B2 h2.symm
                have e2 := con_inj A1 B1 h1
                apply n2; rw [e2, ← e1]; exact b1
              · rw [A2, hfw] at h2
                have e1 := hfx _ B1 h2.symm
                have e2 := con_inj A1 B2 h1
                apply n3; rw [e2, ← e1]; exact b1
        · by_cases B1 : b.1 = w
          · have B2 : b.2 ≠ w := by omega
            obtain ⟨n1, n2, n3⟩ := kb1 B1
            rcases hc with ⟨h1, h2⟩ | ⟨h1, h2⟩
            · rw [B1, hfw] at h1
              have e1 := hfx _ A1 h1
              have e2 := con_inj A2 B2 h2
              apply n3; rw [← e2, ← e1]; exact a1
            · rw [B1, hfw] at h2
              have e1 := hfx _ A2 h2
              have e2 := con_inj A1 B2 h1
              apply n2; rw [← e2, ← e1]; exact a1
          · by_cases B2 : b.2 = w
            · obtain ⟨n1, n2, n3⟩ := kb2 B2
              rcases hc with ⟨h1, h2⟩ | ⟨h1, h2⟩
              · rw [B2, hfw] at h2
                have e1 := hfx _ A2 h2
                have e2 := con_inj A1 B1 h1
                apply n2; rw [← e2, ← e1]; exact a1
              · rw [B2, hfw] at h1
                have e1 := hfx _ A1 h1
                have e2 := con_inj A2 B1 h2
                apply n3; rw [← e2, ← e1]; exact a1
            · rcases hc with ⟨h1, h2⟩ | ⟨h1, h2⟩
              · exact hab (con_inj A1 B1 h1) (con_inj A2 B2 h2)
              · have := con_inj A1 B2 h1
                have := con_inj A2 B1 h2
                omega
    · rw [setE_mem, normsE_mem, List.mem_map]
      constructor
      · rintro ⟨y, hy, hyn, rfl⟩
        obtain ⟨⟨e, hm, rfl⟩, _, _⟩ := (mapE_mem _ _ _).1 hy
        simp only at hyn
        have q := he e hm
        cases hl : lost E u w e with
        | false => exact ⟨e, List.mem_filter.2 ⟨hm, by rw [hl]; rfl⟩, rfl⟩
        | true =>
          obtain ⟨l1, l2⟩ := (lost_iff e (by omega)).1 hl
          have hnew : ∀ e' ∈ E, e'.1 ≠ w → e'.2 ≠ w → lost E u w e' = false := by
            intro e' hm' h1 h2
            have q' := he e' hm'
            rw [← Bool.not_eq_true, lost_iff e' (by omega)]
            rintro ⟨h | h, _⟩
            · exact h1 h
            · exact h2 h
          by_cases h1 : e.1 = w
          · have ho : oth w e = e.2 := by unfold oth; rw [if_pos h1]
            rw [ho] at l2
            rw [h1, hfw] at hyn
            rcases l2 with l2 | l2 | l2
            · rw [l2, hfu] at hyn; exact absurd rfl hyn
            · refine ⟨(e.2, u), List.mem_filter.2 ⟨l2, by rw [hnew _ l2 (by simp only; omega) (by simp only; omega)]; rfl⟩, ?_⟩
              simp only [nrmE, h1, hfw, hfu]
              rw [Int.min_comm, Int.max_comm]
            · refine ⟨(u, e.2), List.mem_filter.2 ⟨l2, by rw [hnew _ l2 (by simp only; omega) (by simp only; omega)]; rfl⟩, ?_⟩
              simp only [nrmE, h1, hfw, hfu]
          · have h2 : e.2 = w := by rcases l1 with l1 | l1; · exact absurd l1 h1
                                    · exact l1
            have ho : oth w e = e.1 := by unfold oth; rw [if_neg h1]
            rw [ho] at l2
            rw [h2, hfw] at hyn
            rcases l2 with l2 | l2 | l2
            · rw [l2, hfu] at hyn; exact absurd rfl hyn
            · refine ⟨(e.1, u), List.mem_filter.2 ⟨l2, by rw [hnew _ l2 (by simp only; omega) (by simp only; omega)]; rfl⟩, ?_⟩
              simp only [nrmE, h2, hfw, hfu]
            · refine ⟨(u, e.1), List.mem_filter.2 ⟨l2, by rw [hnew _ l2 (by simp only; omega) (by simp only; omega)]; rfl⟩, ?_⟩
              simp only [nrmE, h2, hfw, hfu]
              rw [Int.min_comm, Int.max_comm]
      · rintro ⟨e, hm, rfl⟩
        obtain ⟨m1, m2⟩ := List.mem_filter.1 hm
        have q := he e m1
        have hl : lost E u w e = false := by simpa using m2
        obtain ⟨k1, k2⟩ := hnl e m1 hl
        refine ⟨(conI u w e.1, conI u w e.2), (mapE_mem _ _ _).2 ⟨⟨e, m1, rfl⟩, con_pos hlt.2 (by omega) (by omega), con_pos hlt.2 (by omega) (by omega)⟩, ?_, rfl⟩
        simp only
        intro h
        by_cases h1 : e.1 = w
        · rw [h1, hfw] at h
          exact (k1 h1).1 (hfx _ (by omega) h.symm)
        · by_cases h2 : e.2 = w
          · rw [h2, hfw] at h
            exact (k2 h2).1 (hfx _ h1 h)
          · have := con_inj h1 h2 h; omega
  omega
end Go.Ai.G
/- SubCounts, the walk. -/
namespace Go.Ai.G
open Go.Ai
set_option maxRecDepth 100000
set_option linter.unusedSimpArgs false
set_option linter.unusedVariables false
variable {A : AProg} {φ : Nat → Nat}
theorem er52_0 (φ : Nat → Nat) : r52_0 φ = [
  ⟨0, .N .box, [.n 0], none, 0⟩,
  ⟨1, .N .mv, [.c (.bool false)], none, 0⟩] := Eq.trans rfl rfl
theorem er52_1 (φ : Nat → Nat) : r52_1 φ = [
  ⟨0, .calli true (φ 38), [], none, 0⟩,
  ⟨1, .N .mv, [.l 0], none, 0⟩] := Eq.trans rfl rfl
theorem er52_2 (φ : Nat → Nat) : r52_2 φ = [
  ⟨0, .N (.loadN 2), [.n 2], none, 0⟩,
  ⟨1, .calli false (φ 39), [.l 0, .c (.int .i64 30)], none, 0⟩,
  ⟨2, .N (.alloc [.int .i64 0, .nils]), [], none, 0⟩,
  ⟨3, .X (.store 2), [.l 0, .l 1], none, 0⟩] := Eq.trans rfl rfl
theorem er52_3 (φ : Nat → Nat) : r52_3 φ = [
  ⟨0, .N (.fadd 1), [.n 5], none, 0⟩,
  ⟨1, .N .load1, [.l 0], none, 0⟩,
  ⟨2, .N .lenS, [.l 0], none, 0⟩,
  ⟨3, .N (.bin .eql), [.l 0, .c (.int .i64 0)], none, 0⟩] := Eq.trans rfl rfl
theorem er52_4 (φ : Nat → Nat) : r52_4 φ = [
  ⟨0, .N .mv, [.n 4], none, 0⟩,
  ⟨1, .N .mv, [.l 0], none, 0⟩] := Eq.trans rfl rfl
theorem er52_5 (φ : Nat → Nat) : r52_5 φ = [
  ⟨0, .N (.fadd 1), [.n 5], none, 0⟩,
  ⟨1, .N .load1, [.l 0], none, 1⟩,
  ⟨2, .N .mv, [.n 1], none, 0⟩,
  ⟨3, .N (.bin .and), [.l 0, .c (.int .i64 65535)], none, 4⟩,
  ⟨4, .N (.fadd 1), [.n 5], none, 0⟩,
  ⟨5, .N .load1, [.l 0], none, 16⟩,
  ⟨6, .N .lenS, [.l 0], none, 48⟩,
  ⟨7, .N (.bin .rem), [.l 3, .l 0], none, 124⟩,
  ⟨8, .N (.idx 2), [.l 6, .l 0], none, 255⟩,
  ⟨9, .N (.loadN 2), [.l 0], none, 511⟩,
  ⟨10, .N (.alloc [.int .i64 0, .int .i64 0]), [], none, 0⟩,
  ⟨11, .X (.store 2), [.l 0, .l 1], none, 2047⟩] := Eq.trans rfl rfl
theorem er52_6 (φ : Nat → Nat) : r52_6 φ = [
  ⟨0, .N (.loadN 2), [.n 5], none, 0⟩,
  ⟨1, .N (.fadd 0), [.n 6], none, 0⟩,
  ⟨2, .N .load1, [.l 0], none, 0⟩,
  ⟨3, .calli false (φ 9), [.l 2, .l 0], none, 0⟩,
  ⟨4, .N .mv, [.l 0], none, 0⟩] := Eq.trans rfl rfl
theorem er52_7 (φ : Nat → Nat) : r52_7 φ = [
  ⟨0, .N .mv, [.c (.int .i64 0)], none, 0⟩] := Eq.trans rfl rfl
theorem er52_8 (φ : Nat → Nat) : r52_8 φ = [
  ⟨0, .N .mv, [.c (.int .i64 0)], none, 0⟩] := Eq.trans rfl rfl
theorem er52_9 (φ : Nat → Nat) : r52_9 φ = [
  ⟨0, .N .mv, [.n 9], none, 0⟩,
  ⟨1, .N .mv, [.n 7], none, 0⟩,
  ⟨2, .N .lenS, [.l 0], none, 0⟩,
  ⟨3, .N (.bin .lss), [.l 2, .l 0], none, 0⟩] := Eq.trans rfl rfl
theorem er52_10 (φ : Nat → Nat) : r52_10 φ = [
  ⟨0, .N (.loadN 2), [.n 5], none, 0⟩,
  ⟨1, .N .mv, [.n 7], none, 0⟩,
  ⟨2, .N .mv, [.n 9], none, 0⟩,
  ⟨3, .N (.idx 1), [.l 1, .l 0], none, 6⟩,
  ⟨4, .N .load1, [.l 0], none, 14⟩,
  ⟨5, .N (.fadd 1), [.n 6], none, 0⟩,
  ⟨6, .N .load1, [.l 0], none, 32⟩,
  ⟨7, .calli true (φ 7), [.l 6, .l 2, .l 0], none, 127⟩] := Eq.trans rfl rfl
theorem er52_11 (φ : Nat → Nat) : r52_11 φ = [
  ⟨0, .N .mv, [.n 8], none, 0⟩,
  ⟨1, .N (.bin .add), [.l 0, .c (.int .i64 1)], none, 0⟩,
  ⟨2, .N .mv, [.l 0], none, 0⟩] := Eq.trans rfl rfl
theorem er52_12 (φ : Nat → Nat) : r52_12 φ = [
  ⟨0, .N .mv, [.n 9], none, 0⟩,
  ⟨1, .N (.bin .add), [.l 0, .c (.int .i64 1)], none, 0⟩,
  ⟨2, .N .mv, [.l 0], none, 0⟩] := Eq.trans rfl rfl
theorem er52_14 (φ : Nat → Nat) : r52_14 φ = [
  ⟨0, .N (.loadN 2), [.n 5], none, 0⟩,
  ⟨1, .N (.fadd 1), [.n 6], none, 0⟩,
  ⟨2, .N .load1, [.l 0], none, 0⟩,
  ⟨3, .N (.fadd 0), [.n 6], none, 0⟩,
  ⟨4, .N .load1, [.l 0], none, 0⟩,
  ⟨5, .calli false (φ 45), [.l 4, .l 2, .l 0], none, 0⟩,
  ⟨6, .N .mv, [.l 0], none, 0⟩,
  ⟨7, .N (.ext 0), [.l 0], none, 0⟩,
  ⟨8, .N (.ext 1), [.l 1], none, 0⟩,
  ⟨9, .N (.alloc [.int .i64 0, .nils]), [], none, 0⟩,
  ⟨10, .X (.store 2), [.l 0, .l 2], none, 0⟩,
  ⟨11, .N .mv, [.l 2], none, 0⟩] := Eq.trans rfl rfl
theorem er52_15 (φ : Nat → Nat) : r52_15 φ = [
  ⟨0, .N (.loadN 2), [.n 5], none, 0⟩,
  ⟨1, .N (.fadd 1), [.n 6], none, 0⟩,
  ⟨2, .N .load1, [.l 0], none, 0⟩,
  ⟨3, .calli false (φ 43), [.l 2, .l 0], none, 0⟩,
  ⟨4, .N .mv, [.l 0], none, 0⟩,
  ⟨5, .N (.ext 0), [.l 0], none, 0⟩,
  ⟨6, .N (.ext 1), [.l 1], none, 0⟩,
  ⟨7, .N (.alloc [.int .i64 0, .nils]), [], none, 0⟩,
  ⟨8, .X (.store 2), [.l 0, .l 2], none, 0⟩,
  ⟨9, .N .mv, [.l 2], none, 0⟩] := Eq.trans rfl rfl
theorem er52_16 (φ : Nat → Nat) : r52_16 φ = [
  ⟨0, .N .mv, [.n 4], none, 0⟩,
  ⟨1, .N .mv, [.l 0], none, 1⟩,
  ⟨2, .N .mv, [.n 11], some (.l 0, true), 3⟩,
  ⟨3, .N (.bin .eql), [.l 0, .c (.int .i64 0)], some (.l 1, true), 7⟩,
  ⟨4, .N .pick, [.l 2, .l 0, .c (.bool false)], none, 15⟩,
  ⟨5, .N .mv, [.l 0], none, 31⟩,
  ⟨6, .N .mv, [.n 13], some (.l 0, true), 63⟩,
  ⟨7, .N (.bin .eql), [.l 0, .c (.int .i64 0)], some (.l 1, true), 127⟩,
  ⟨8, .N .pick, [.l 2, .l 0, .c (.bool false)], none, 255⟩,
  ⟨9, .N .mv, [.l 0], none, 511⟩,
  ⟨10, .N (.fadd 0), [.n 10], some (.l 0, true), 1023⟩,
  ⟨11, .N .load1, [.l 0], some (.l 1, true), 2047⟩,
  ⟨12, .N (.fadd 0), [.n 5], some (.l 2, true), 1023⟩,
  ⟨13, .N .load1, [.l 0], some (.l 3, true), 5119⟩,
  ⟨14, .N (.bin .sub), [.l 0, .c (.int .i64 1)], some (.l 4, true), 13311⟩,
  ⟨15, .N (.bin .eql), [.l 3, .l 0], some (.l 5, true), 32767⟩,
  ⟨16, .N .pick, [.l 6, .l 0, .c (.bool false)], none, 65535⟩,
  ⟨17, .N .mv, [.l 0], none, 131071⟩,
  ⟨18, .N (.fadd 0), [.n 12], some (.l 0, true), 262143⟩,
  ⟨19, .N .load1, [.l 0], some (.l 1, true), 524287⟩,
  ⟨20, .N (.fadd 0), [.n 5], some (.l 2, true), 262143⟩,
  ⟨21, .N .load1, [.l 0], some (.l 3, true), 1310719⟩,
  ⟨22, .N (.bin .sub), [.l 0, .c (.int .i64 1)], some (.l 4, true), 3407871⟩,
  ⟨23, .N (.bin .eql), [.l 3, .l 0], some (.l 5, true), 8388607⟩,
  ⟨24, .N .pick, [.l 6, .l 0, .c (.bool false)], none, 16777215⟩,
  ⟨25, .N .mv, [.l 0], none, 33554431⟩,
  ⟨26, .N (.fadd 1), [.n 10], some (.l 0, true), 67108863⟩,
  ⟨27, .N .load1, [.l 0], some (.l 1, true), 134217727⟩,
  ⟨28, .N .lenS, [.l 0], some (.l 2, true), 268435455⟩,
  ⟨29, .N (.fadd 1), [.n 5], some (.l 3, true), 67108863⟩,
  ⟨30, .N .load1, [.l 0], some (.l 4, true), 603979775⟩,
  ⟨31, .N .lenS, [.l 0], some (.l 5, true), 1677721599⟩,
  ⟨32, .N (.bin .sub), [.l 0, .c (.int .i64 1)], some (.l 6, true), 3825205247⟩,
  ⟨33, .N .mv, [.n 8], some (.l 7, true), 67108863⟩,
  ⟨34, .N (.bin .sub), [.l 1, .l 0], some (.l 8, true), 16710107135⟩,
  ⟨35, .N (.bin .eql), [.l 6, .l 0], some (.l 9, true), 34359738367⟩,
  ⟨36, .N .pick, [.l 10, .l 0, .c (.bool false)], none, 68719476735⟩,
  ⟨37, .N .mv, [.l 0], none, 137438953471⟩,
  ⟨38, .N (.fadd 1), [.n 12], some (.l 0, true), 274877906943⟩,
  ⟨39, .N .load1, [.l 0], some (.l 1, true), 549755813887⟩,
  ⟨40, .N .lenS, [.l 0], some (.l 2, true), 1099511627775⟩,
  ⟨41, .N (.fadd 1), [.n 5], some (.l 3, true), 274877906943⟩,
  ⟨42, .N .load1, [.l 0], some (.l 4, true), 2473901162495⟩,
  ⟨43, .N .lenS, [.l 0], some (.l 5, true), 6871947673599⟩,
  ⟨44, .N (.loadN 2), [.n 5], some (.l 6, true), 274877906943⟩,
  ⟨45, .N (.fadd 1), [.n 6], some (.l 7, true), 274877906943⟩,
  ⟨46, .N .load1, [.l 0], some (.l 8, true), 35459249995775⟩,
  ⟨47, .calli false (φ 9), [.l 2, .l 0], some (.l 9, true), 123420180217855⟩,
  ⟨48, .N .lenS, [.l 0], some (.l 10, true), 264157668573183⟩,
  ⟨49, .N (.bin .sub), [.l 5, .l 0], some (.l 11, true), 561025808072703⟩,
  ⟨50, .N (.bin .eql), [.l 9, .l 0], some (.l 12, true), 1125899906842623⟩,
  ⟨51, .N .pick, [.l 13, .l 0, .c (.bool false)], none, 2251799813685247⟩,
  ⟨52, .N .mv, [.l 0], none, 4503599627370495⟩,
  ⟨53, .N (.loadN 2), [.n 10], some (.l 0, true), 9007199254740991⟩,
  ⟨54, .calli true (φ 4), [.l 0], some (.l 1, true), 18014398509481983⟩,
  ⟨55, .N .pick, [.l 2, .l 0, .c (.bool false)], none, 36028797018963967⟩,
  ⟨56, .N .mv, [.l 0], none, 72057594037927935⟩,
  ⟨57, .N (.loadN 2), [.n 12], some (.l 0, true), 144115188075855871⟩,
  ⟨58, .calli true (φ 4), [.l 0], some (.l 1, true), 288230376151711743⟩,
  ⟨59, .N .pick, [.l 2, .l 0, .c (.bool false)], none, 576460752303423487⟩,
  ⟨60, .N .mv, [.l 0], none, 1152921504606846975⟩] := Eq.trans rfl rfl
structure SK (A : AProg) (φ : Nat → Nat) : Prop where
  w : Go.Ai.G.SW A φ
  right : RightC A (φ 4)
  has : ∀ n a b v es, IsE v es → PVal A (φ 7) [gV n v, .int .i64 a, .int .i64 b] (.bool (hasE n es a b))
  near : ∀ n a v es, IsE v es → PVal A (φ 9) [gV n v, .int .i64 a] (rI (if rightE n es then sortI (nbR a es) else []))
set_option maxHeartbeats 4000000 in
theorem w_SubCounts (h : Has A (φ 52) (f52 φ)) (hS : PVal A (φ 38) [] (.bool true)) (g : SK A φ) (n : Int) (v : AV) (l : List Ed) (hv : IsE v l) (x : Int) :
    PVal A (φ 52) [gV n v, .int .i64 x] (.bool true) := by
  have hsh := hS.eq
  have hone := hv.one
  have hcl := hv.closed
  have c0 := (g.w.l.s.of n 30 v l hv (by omega) (by omega)).eq
  have hR := any_right n l (most := 30) (by omega) (by omega)
  have hEl := anyE_len n 30 l
  have hNr := anyN_range (n := n) (most := 30) (by omega)
  generalize anyN n 30 = N at *
  generalize anyE n 30 l = E at *
  have iE := isE_r E
  have hlen := iE.len
  refine pval_has h rfl ?_
  simp only [l52_13, b52, f52]
  by_cases hz : E.length = 0
  · have hz' : E = [] := List.length_eq_zero_iff.1 hz
    subst hz'
    generalize rE ([] : List Ed) = U at *
    simp [↓getD_z, ↓getD_s, -List.getD_eq_getElem?_getD, -Int.ofNat_toNat, -getElem?_pos, gz, ↓hid_k, ↓hid_o, ↓hid_q, ↓hid_v, ↓PO_nil, ↓PO_none, ↓PO_grd, ↓PD_nil, ↓PD_none, ↓PD_grd, ↓PDO_N, ↓PDO_X, ↓PDO_call, ↓PDO_calli, ↓PDO_callv, PDX_free, PDX_eq, ↓PStep_N, ↓PStep_X, ↓PStep_call, ↓PStep_calli, PStep_callv, ↓PC_skip, ↓PC_lab, ↓PC_ret, ↓PC_exit, ↓PC_reg, ↓PC_draw, ↓PC_seq, ↓PC_block, ↓PC_loop, ↓PC_scope, ↓PC_cond, ↓thenC_norm, ↓thenC_ret, ↓thenC_exit, ↓blockC_norm, ↓blockC_ret, ↓blockC_exit, ↓loopC_norm, ↓loopC_ret, ↓loopC_exit, ↓endR_ret, ↓endR_norm, resK_none, resK_t, resK_tt, KNO_val, KNO_new, KNO_ite, KNO_map, KXO_some, KXO_ite, KVA_t, KVA_f, KG_skip, KG_tt, KG_ff, KG_tf, KG_ft, KB_true, KB_false, KNOD_val, KNOD_new, KNOD_ite, n_mv, n_pick, n_bin, n_eqB, n_eqN, n_eqS, n_un, n_conv, n_fadd, n_faddV, n_fld1, n_fldN, n_idx, n_idxA, n_idxV, n_idxAV, n_ext, n_lenS, n_lenS0, n_lenV, n_lenT, n_lenA, n_min, n_max, n_build, n_mkfn, n_slc, n_slc0, n_slcV, n_slcA, n_load1, n_loadN, n_load1V, n_loadNV, n_alloc, n_box, n_bsl, n_mksl, n_nilcP, n_nilcV, n_nilcI, n_nilcF, x_store, x_clear0, x_clear, b_add, b_sub, b_mul, b_eql, b_neq, b_lss, b_leq, b_gtr, b_geq, b_and16, unV, ntouch, gather, hide, unhide, evalOpd, applyOuts, int_bne, int_beq, ite_bool, ite_int, one_bool, cells_bool, one_int, cells_int, one_str, cells_str, one_nilp, cells_nilp, one_ptr, cells_ptr, one_nils, cells_nils, one_sl, cells_sl, one_nilf, cells_nilf, one_fn, cells_fn, one_nili, cells_nili, one_mp, cells_mp, one_nilm, cells_nilm, one_iface, cells_iface, one_vs, cells_vs, one_vp, cells_vp, cells_agg, Nat.testBit, setAt_1, setAt_2, closeds_nil, closeds_cons, closed_bool, closed_int, closed_str, closed_nilp, closed_nils, closed_nilm, closed_nilf, closed_nili, closed_agg, closed_tup, closed_vs, closed_vp, closed_iface, closed_fn, closeds_cI, closeds_cE, viewA_closed, viewR_closed, AV.scal, AV.scal0, fillA, repA, part_bool, part_int, part_str, part_nilp, part_ptr, part_nils, part_sl, part_nilm, part_mp, part_nilf, part_fn, part_nili, part_iface, part_agg, part_vs, part_vp, viewA_sl1, vaSl_cells, wrap_0, wrap_1, wrap_2, wrap_m1, set_last, get_last, er52_0, er52_1, er52_2, er52_3, er52_4, er52_5, er52_6, er52_7, er52_8, er52_9, er52_10, er52_11, er52_12, er52_14, er52_15, er52_16, hsh, hone, hcl, c0, hlen, iE.closed, iE.one, iE.cells, resK, resVs, resV, pack]
  · have hz0 : (E.length : Int) ≠ 0 := by omega
    have hE0 : ¬ E = [] := fun h => hz (by rw [h]; rfl)
    have r1 : binV .rem (.int .i64 (x % 65536)) (.int .i64 (E.length : Int)) = some (.int .i64 ((x % 65536).tmod E.length)) := b_rem _ _ _ hz0
    have rk : 0 ≤ (x % 65536).tmod E.length ∧ (x % 65536).tmod E.length < E.length := by
      rw [Int.tmod_eq_emod_of_nonneg (Int.emod_nonneg _ (by decide))]
      exact ⟨Int.emod_nonneg _ (by omega), Int.emod_lt_of_pos _ (by omega)⟩
    generalize hke : (x % 65536).tmod E.length = k0 at *
    obtain ⟨k, rfl⟩ : ∃ k : Nat, k0 = (k : Int) := ⟨k0.toNat, by omega⟩
    have hk : k < E.length := by omega
    obtain ⟨i1, z1, z2, le1, t1⟩ := iE.at hk
    have hmem := List.getElem_mem hk
    have hends := right_ends hR _ hmem
    obtain ⟨⟨u, w⟩, huw⟩ : ∃ e : Ed, e = E[k] := ⟨_, rfl⟩
    rw [← huw] at z1 z2 t1 hmem hends
    simp only at z1 z2 t1 hends
    have hn := right_len hR
    have hcc := con_count hR hmem
    have hdc := del_count E (fun e he => by have := right_ends hR e he; exact ⟨this.1, this.2.1⟩) (w := w) (by omega)
    have hnu := (g.near N u _ E iE).eq
    have hnw := (g.near N w _ E iE).eq
    rw [hR, if_pos rfl] at hnu hnw
    have iW := isI_r (sortI (nbR u E))
    have iX := isI_r (sortI (nbR w E))
    have hWl := iW.len
    have hXl := iX.len
    rw [sortI_len (nbR w E)] at hXl
    have hm1 : min w u = u := by omega
    have hm2 : max w u = w := by omega
    have hhas : hasE N E w u = true := (hasE_iff hR w u).2 (.inr hmem)
    have hck : contractE N E w u = (N - 1, setE (mapE (conI u w) E), 0) ∧ rightE (N - 1) (setE (mapE (conI u w) E)) = true := by
      have he := right_ends hR
      have hok : (mapE (conI u w) E).all (okEnds (N - 1)) = true := by
        rw [List.all_eq_true]
        intro y hy
        obtain ⟨⟨e, h1, rfl⟩, h2, h3⟩ := (mapE_mem _ _ _).1 hy
        have h0 := he e h1
        have cb : ∀ x, 0 ≤ x → x < N → conI u w x < N - 1 := fun x q1 q2 => by unfold conI; split <;> (try split) <;> omega
        have q1 := cb e.1 (by omega) (by omega)
        have q2 := cb e.2 (by omega) (by omega)
        simp only at h2 h3
        rw [okEnds, decide_eq_true (by simp only; omega), decide_eq_true (by simp only; omega)]; rfl
      have h1 := setE_le (mapE (conI u w) E)
      have h2 := mapE_len (conI u w) E
      have hno := normalE_ok (n := N - 1) (by omega) (by omega) hok (by omega)
      constructor
      · unfold contractE
        rw [if_neg (by simp [hR]), hm1, hm2, if_neg (by omega), if_neg (by simp [hhas]), hno]
      · have := @normalE_right (N - 1) (mapE (conI u w) E)
        rw [hno] at this
        exact this rfl
    have hdk : deleteE N E w = (N - 1, mapE (delI w) E, 0) ∧ rightE (N - 1) (mapE (delI w) E) = true := by
      obtain ⟨q1, q2⟩ := normal_map (m := N - 1) hR (del_mono w N) (by omega) (fun x h0 h1 => by unfold delI; split <;> (try split) <;> omega)
      refine ⟨?_, q2⟩
      unfold deleteE
      rw [if_neg (by simp [hR]), if_neg (by simp [badI]; omega), q1]
    have cC := (g.w.con N w u _ E iE).eq
    have cD := (g.w.l.del N _ E w iE).eq
    rw [hck.1] at cC
    rw [hdk.1] at cD
    simp only [gR] at cC cD
    have iC := isE_r (setE (mapE (conI u w) E))
    have iDD := isE_r (mapE (delI w) E)
    have hCl := iC.len
    have hDl := iDD.len
    have cR1 := (g.right (N - 1) _ _ iC).eq
    have cR2 := (g.right (N - 1) _ _ iDD).eq
    rw [hck.2] at cR1
    rw [hdk.2] at cR2
    have wN : IntKind.i64.wrap (N - 1) = N - 1 := wrap_in (by omega) (by omega)
    have hnbl := nbR_len u E
    have hnbs : (sortI (nbR u E)).length = (nbR u E).length := sortI_len _
    have cHx := fun y : Int => (g.has N y w _ E iE).eq
    have hbothle : ∀ l' : List Int, (l'.filter fun y => hasE N E y w).length ≤ l'.length := fun l' => List.length_filter_le _ _
    generalize hnbe : sortI (nbR u E) = nb at *
    generalize rI nb = W at *
    generalize rI (sortI (nbR w E)) = X at *
    generalize setE (mapE (conI u w) E) = CE' at *
    generalize mapE (delI w) E = DE' at *
    generalize rE CE' = uC at *
    generalize rE DE' = uD at *
    generalize rE E = uE at *
    have hEw : ∀ m : Nat, m ≤ E.length → IntKind.i64.wrap ((E.length : Int) - (m : Int)) = (E.length : Int) - (m : Int) := fun m hm => wrap_in (by omega) (by omega)
    simp [↓getD_z, ↓getD_s, -List.getD_eq_getElem?_getD, -Int.ofNat_toNat, -getElem?_pos, gz, ↓hid_k, ↓hid_o, ↓hid_q, ↓hid_v, ↓PO_nil, ↓PO_none, ↓PO_grd, ↓PD_nil, ↓PD_none, ↓PD_grd, ↓PDO_N, ↓PDO_X, ↓PDO_call, ↓PDO_calli, ↓PDO_callv, PDX_free, PDX_eq, ↓PStep_N, ↓PStep_X, ↓PStep_call, ↓PStep_calli, PStep_callv, ↓PC_skip, ↓PC_lab, ↓PC_ret, ↓PC_exit, ↓PC_reg, ↓PC_draw, ↓PC_seq, ↓PC_block, ↓PC_loop, ↓PC_scope, ↓PC_cond, ↓thenC_norm, ↓thenC_ret, ↓thenC_exit, ↓blockC_norm, ↓blockC_ret, ↓blockC_exit, ↓loopC_norm, ↓loopC_ret, ↓loopC_exit, ↓endR_ret, ↓endR_norm, resK_none, resK_t, resK_tt, KNO_val, KNO_new, KNO_ite, KNO_map, KXO_some, KXO_ite, KVA_t, KVA_f, KG_skip, KG_tt, KG_ff, KG_tf, KG_ft, KB_true, KB_false, KNOD_val, KNOD_new, KNOD_ite, n_mv, n_pick, n_bin, n_eqB, n_eqN, n_eqS, n_un, n_conv, n_fadd, n_faddV, n_fld1, n_fldN, n_idx, n_idxA, n_idxV, n_idxAV, n_ext, n_lenS, n_lenS0, n_lenV, n_lenT, n_lenA, n_min, n_max, n_build, n_mkfn, n_slc, n_slc0, n_slcV, n_slcA, n_load1, n_loadN, n_load1V, n_loadNV, n_alloc, n_box, n_bsl, n_mksl, n_nilcP, n_nilcV, n_nilcI, n_nilcF, x_store, x_clear0, x_clear, b_add, b_sub, b_mul, b_eql, b_neq, b_lss, b_leq, b_gtr, b_geq, b_and16, unV, ntouch, gather, hide, unhide, evalOpd, applyOuts, int_bne, int_beq, ite_bool, ite_int, one_bool, cells_bool, one_int, cells_int, one_str, cells_str, one_nilp, cells_nilp, one_ptr, cells_ptr, one_nils, cells_nils, one_sl, cells_sl, one_nilf, cells_nilf, one_fn, cells_fn, one_nili, cells_nili, one_mp, cells_mp, one_nilm, cells_nilm, one_iface, cells_iface, one_vs, cells_vs, one_vp, cells_vp, cells_agg, Nat.testBit, setAt_1, setAt_2, closeds_nil, closeds_cons, closed_bool, closed_int, closed_str, closed_nilp, closed_nils, closed_nilm, closed_nilf, closed_nili, closed_agg, closed_tup, closed_vs, closed_vp, closed_iface, closed_fn, closeds_cI, closeds_cE, viewA_closed, viewR_closed, AV.scal, AV.scal0, fillA, repA, part_bool, part_int, part_str, part_nilp, part_ptr, part_nils, part_sl, part_nilm, part_mp, part_nilf, part_fn, part_nili, part_iface, part_agg, part_vs, part_vp, viewA_sl1, vaSl_cells, wrap_0, wrap_1, wrap_2, wrap_m1, set_last, get_last, er52_0, er52_1, er52_2, er52_3, er52_4, er52_5, er52_6, er52_7, er52_8, er52_9, er52_10, er52_11, er52_12, er52_14, er52_15, er52_16, hsh, hone, hcl, c0, hlen, hz, hE0, iE.closed, iE.one, iE.cells, r1, i1, z1, z2, le1, t1, hnu, iW.closed]
    refine pc_loopI (fun m st => ∃ (i : Nat) (p15 p16 : AV), i + m = nb.length ∧ st = ([gV n v, .int .i64 x, .ptr 0 0 0, .bool false, .bool true, .ptr 1 0 0, .ptr 2 0 0, W, .int .i64 (((nb.take i).filter fun y => hasE N E y w).length : Int), .int .i64 i, .un, .un, .un, .un, .bool false, p15, p16],
      [.cells 0 false [.int .i64 n, v], .cells 0 false [.int .i64 N, uE], .cells 0 false [.int .i64 u, .int .i64 w]])) nb.length ⟨0, _, _, by simp, rfl⟩ ?_
    rintro m st ⟨i, p15, p16, hi, rfl⟩
    by_cases hil : i < nb.length
    · have hil' : (i : Int) < nb.length := by omega
      obtain ⟨w1, w2⟩ := iW.at hil
      have hiw := wrap1 hil (by omega)
      have cHi := cHx nb[i]
      have htk : nb.take (i + 1) = nb.take i ++ [nb[i]] := List.take_succ_eq_append_getElem hil
      have hbl := hbothle (nb.take i)
      have hbl2 : (nb.take i).length ≤ 600 := by simp; omega
      have hbw : IntKind.i64.wrap ((((nb.take i).filter fun y => hasE N E y w).length : Int) + 1) = (((nb.take i).filter fun y => hasE N E y w).length : Int) + 1 := wrap_in (by omega) (by omega)
      cases hh : hasE N E nb[i] w with
      | true =>
        rw [hh] at cHi
        have hf : ((nb.take (i + 1)).filter fun y => hasE N E y w).length = ((nb.take i).filter fun y => hasE N E y w).length + 1 := by rw [htk, List.filter_append]; simp [hh]
        generalize ((nb.take i).filter fun y => hasE N E y w).length = bt at *
        simp [↓getD_z, ↓getD_s, -List.getD_eq_getElem?_getD, -Int.ofNat_toNat, -getElem?_pos, gz, ↓hid_k, ↓hid_o, ↓hid_q, ↓hid_v, ↓PO_nil, ↓PO_none, ↓PO_grd, ↓PD_nil, ↓PD_none, ↓PD_grd, ↓PDO_N, ↓PDO_X, ↓PDO_call, ↓PDO_calli, ↓PDO_callv, PDX_free, PDX_eq, ↓PStep_N, ↓PStep_X, ↓PStep_call, ↓PStep_calli, PStep_callv, ↓PC_skip, ↓PC_lab, ↓PC_ret, ↓PC_exit, ↓PC_reg, ↓PC_draw, ↓PC_seq, ↓PC_block, ↓PC_loop, ↓PC_scope, ↓PC_cond, ↓thenC_norm, ↓thenC_ret, ↓thenC_exit, ↓blockC_norm, ↓blockC_ret, ↓blockC_exit, ↓loopC_norm, ↓loopC_ret, ↓loopC_exit, ↓endR_ret, ↓endR_norm, resK_none, resK_t, resK_tt, KNO_val, KNO_new, KNO_ite, KNO_map, KXO_some, KXO_ite, KVA_t, KVA_f, KG_skip, KG_tt, KG_ff, KG_tf, KG_ft, KB_true, KB_false, KNOD_val, KNOD_new, KNOD_ite, n_mv, n_pick, n_bin, n_eqB, n_eqN, n_eqS, n_un, n_conv, n_fadd, n_faddV, n_fld1, n_fldN, n_idx, n_idxA, n_idxV, n_idxAV, n_ext, n_lenS, n_lenS0, n_lenV, n_lenT, n_lenA, n_min, n_max, n_build, n_mkfn, n_slc, n_slc0, n_slcV, n_slcA, n_load1, n_loadN, n_load1V, n_loadNV, n_alloc, n_box, n_bsl, n_mksl, n_nilcP, n_nilcV, n_nilcI, n_nilcF, x_store, x_clear0, x_clear, b_add, b_sub, b_mul, b_eql, b_neq, b_lss, b_leq, b_gtr, b_geq, b_and16, unV, ntouch, gather, hide, unhide, evalOpd, applyOuts, int_bne, int_beq, ite_bool, ite_int, one_bool, cells_bool, one_int, cells_int, one_str, cells_str, one_nilp, cells_nilp, one_ptr, cells_ptr, one_nils, cells_nils, one_sl, cells_sl, one_nilf, cells_nilf, one_fn, cells_fn, one_nili, cells_nili, one_mp, cells_mp, one_nilm, cells_nilm, one_iface, cells_iface, one_vs, cells_vs, one_vp, cells_vp, cells_agg, Nat.testBit, setAt_1, setAt_2, closeds_nil, closeds_cons, closed_bool, closed_int, closed_str, closed_nilp, closed_nils, closed_nilm, closed_nilf, closed_nili, closed_agg, closed_tup, closed_vs, closed_vp, closed_iface, closed_fn, closeds_cI, closeds_cE, viewA_closed, viewR_closed, AV.scal, AV.scal0, fillA, repA, part_bool, part_int, part_str, part_nilp, part_ptr, part_nils, part_sl, part_nilm, part_mp, part_nilf, part_fn, part_nili, part_iface, part_agg, part_vs, part_vp, viewA_sl1, vaSl_cells, wrap_0, wrap_1, wrap_2, wrap_m1, set_last, get_last, er52_0, er52_1, er52_2, er52_3, er52_4, er52_5, er52_6, er52_7, er52_8, er52_9, er52_10, er52_11, er52_12, er52_14, er52_15, er52_16, hWl, hil', hil, w1, w2, cHi, iE.closed, hbw, hiw]
        exact next_mk (m - 1) (by omega) ⟨i + 1, _, _, by omega, by rw [hf]; rfl⟩
      | false =>
        rw [hh] at cHi
        have hf : ((nb.take (i + 1)).filter fun y => hasE N E y w).length = ((nb.take i).filter fun y => hasE N E y w).length := by rw [htk, List.filter_append]; simp [hh]
        generalize ((nb.take i).filter fun y => hasE N E y w).length = bt at *
        simp [↓getD_z, ↓getD_s, -List.getD_eq_getElem?_getD, -Int.ofNat_toNat, -getElem?_pos, gz, ↓hid_k, ↓hid_o, ↓hid_q, ↓hid_v, ↓PO_nil, ↓PO_none, ↓PO_grd, ↓PD_nil, ↓PD_none, ↓PD_grd, ↓PDO_N, ↓PDO_X, ↓PDO_call, ↓PDO_calli, ↓PDO_callv, PDX_free, PDX_eq, ↓PStep_N, ↓PStep_X, ↓PStep_call, ↓PStep_calli, PStep_callv, ↓PC_skip, ↓PC_lab, ↓PC_ret, ↓PC_exit, ↓PC_reg, ↓PC_draw, ↓PC_seq, ↓PC_block, ↓PC_loop, ↓PC_scope, ↓PC_cond, ↓thenC_norm, ↓thenC_ret, ↓thenC_exit, ↓blockC_norm, ↓blockC_ret, ↓blockC_exit, ↓loopC_norm, ↓loopC_ret, ↓loopC_exit, ↓endR_ret, ↓endR_norm, resK_none, resK_t, resK_tt, KNO_val, KNO_new, KNO_ite, KNO_map, KXO_some, KXO_ite, KVA_t, KVA_f, KG_skip, KG_tt, KG_ff, KG_tf, KG_ft, KB_true, KB_false, KNOD_val, KNOD_new, KNOD_ite, n_mv, n_pick, n_bin, n_eqB, n_eqN, n_eqS, n_un, n_conv, n_fadd, n_faddV, n_fld1, n_fldN, n_idx, n_idxA, n_idxV, n_idxAV, n_ext, n_lenS, n_lenS0, n_lenV, n_lenT, n_lenA, n_min, n_max, n_build, n_mkfn, n_slc, n_slc0, n_slcV, n_slcA, n_load1, n_loadN, n_load1V, n_loadNV, n_alloc, n_box, n_bsl, n_mksl, n_nilcP, n_nilcV, n_nilcI, n_nilcF, x_store, x_clear0, x_clear, b_add, b_sub, b_mul, b_eql, b_neq, b_lss, b_leq, b_gtr, b_geq, b_and16, unV, ntouch, gather, hide, unhide, evalOpd, applyOuts, int_bne, int_beq, ite_bool, ite_int, one_bool, cells_bool, one_int, cells_int, one_str, cells_str, one_nilp, cells_nilp, one_ptr, cells_ptr, one_nils, cells_nils, one_sl, cells_sl, one_nilf, cells_nilf, one_fn, cells_fn, one_nili, cells_nili, one_mp, cells_mp, one_nilm, cells_nilm, one_iface, cells_iface, one_vs, cells_vs, one_vp, cells_vp, cells_agg, Nat.testBit, setAt_1, setAt_2, closeds_nil, closeds_cons, closed_bool, closed_int, closed_str, closed_nilp, closed_nils, closed_nilm, closed_nilf, closed_nili, closed_agg, closed_tup, closed_vs, closed_vp, closed_iface, closed_fn, closeds_cI, closeds_cE, viewA_closed, viewR_closed, AV.scal, AV.scal0, fillA, repA, part_bool, part_int, part_str, part_nilp, part_ptr, part_nils, part_sl, part_nilm, part_mp, part_nilf, part_fn, part_nili, part_iface, part_agg, part_vs, part_vp, viewA_sl1, vaSl_cells, wrap_0, wrap_1, wrap_2, wrap_m1, set_last, get_last, er52_0, er52_1, er52_2, er52_3, er52_4, er52_5, er52_6, er52_7, er52_8, er52_9, er52_10, er52_11, er52_12, er52_14, er52_15, er52_16, hWl, hil', hil, w1, w2, cHi, iE.closed, hbw, hiw]
        exact next_mk (m - 1) (by omega) ⟨i + 1, _, _, by omega, by rw [hf]; rfl⟩
    · have hil' : ¬ (i : Int) < nb.length := by omega
      have htk : nb.take i = nb := List.take_of_length_le (by omega)
      rw [htk]
      generalize (nb.filter fun y => hasE N E y w).length = bt at *
      have e1 := hEw 1 (by omega)
      have e2 : IntKind.i64.wrap ((E.length : Int) - 1 - (bt : Int)) = (E.length : Int) - 1 - (bt : Int) := wrap_in (by omega) (by omega)
      have e3 := hEw (nbR w E).length (by omega)
      have e4 : (CE'.length : Int) = (E.length : Int) - 1 - (bt : Int) := by omega
      have e5 : (DE'.length : Int) = (E.length : Int) - ((nbR w E).length : Int) := by omega
      have e1' : IntKind.i64.wrap ((E.length : Int) - 1) = (E.length : Int) - 1 := e1
      simp [↓getD_z, ↓getD_s, -List.getD_eq_getElem?_getD, -Int.ofNat_toNat, -getElem?_pos, gz, ↓hid_k, ↓hid_o, ↓hid_q, ↓hid_v, ↓PO_nil, ↓PO_none, ↓PO_grd, ↓PD_nil, ↓PD_none, ↓PD_grd, ↓PDO_N, ↓PDO_X, ↓PDO_call, ↓PDO_calli, ↓PDO_callv, PDX_free, PDX_eq, ↓PStep_N, ↓PStep_X, ↓PStep_call, ↓PStep_calli, PStep_callv, ↓PC_skip, ↓PC_lab, ↓PC_ret, ↓PC_exit, ↓PC_reg, ↓PC_draw, ↓PC_seq, ↓PC_block, ↓PC_loop, ↓PC_scope, ↓PC_cond, ↓thenC_norm, ↓thenC_ret, ↓thenC_exit, ↓blockC_norm, ↓blockC_ret, ↓blockC_exit, ↓loopC_norm, ↓loopC_ret, ↓loopC_exit, ↓endR_ret, ↓endR_norm, resK_none, resK_t, resK_tt, KNO_val, KNO_new, KNO_ite, KNO_map, KXO_some, KXO_ite, KVA_t, KVA_f, KG_skip, KG_tt, KG_ff, KG_tf, KG_ft, KB_true, KB_false, KNOD_val, KNOD_new, KNOD_ite, n_mv, n_pick, n_bin, n_eqB, n_eqN, n_eqS, n_un, n_conv, n_fadd, n_faddV, n_fld1, n_fldN, n_idx, n_idxA, n_idxV, n_idxAV, n_ext, n_lenS, n_lenS0, n_lenV, n_lenT, n_lenA, n_min, n_max, n_build, n_mkfn, n_slc, n_slc0, n_slcV, n_slcA, n_load1, n_loadN, n_load1V, n_loadNV, n_alloc, n_box, n_bsl, n_mksl, n_nilcP, n_nilcV, n_nilcI, n_nilcF, x_store, x_clear0, x_clear, b_add, b_sub, b_mul, b_eql, b_neq, b_lss, b_leq, b_gtr, b_geq, b_and16, unV, ntouch, gather, hide, unhide, evalOpd, applyOuts, int_bne, int_beq, ite_bool, ite_int, one_bool, cells_bool, one_int, cells_int, one_str, cells_str, one_nilp, cells_nilp, one_ptr, cells_ptr, one_nils, cells_nils, one_sl, cells_sl, one_nilf, cells_nilf, one_fn, cells_fn, one_nili, cells_nili, one_mp, cells_mp, one_nilm, cells_nilm, one_iface, cells_iface, one_vs, cells_vs, one_vp, cells_vp, cells_agg, Nat.testBit, setAt_1, setAt_2, closeds_nil, closeds_cons, closed_bool, closed_int, closed_str, closed_nilp, closed_nils, closed_nilm, closed_nilf, closed_nili, closed_agg, closed_tup, closed_vs, closed_vp, closed_iface, closed_fn, closeds_cI, closeds_cE, viewA_closed, viewR_closed, AV.scal, AV.scal0, fillA, repA, part_bool, part_int, part_str, part_nilp, part_ptr, part_nils, part_sl, part_nilm, part_mp, part_nilf, part_fn, part_nili, part_iface, part_agg, part_vs, part_vp, viewA_sl1, vaSl_cells, wrap_0, wrap_1, wrap_2, wrap_m1, set_last, get_last, er52_0, er52_1, er52_2, er52_3, er52_4, er52_5, er52_6, er52_7, er52_8, er52_9, er52_10, er52_11, er52_12, er52_14, er52_15, er52_16, hWl, hil', hil, cC, cD, cR1, cR2, hnw, hlen, hCl, hDl, hXl, wN, e1', e2, e3, e4, e5, iE.closed, iE.one, iE.cells, iC.closed, iC.one, iC.cells, iDD.closed, iDD.one, iDD.cells, iX.closed, iX.one, resK, resVs, resV, pack]
end Go.Ai.G
