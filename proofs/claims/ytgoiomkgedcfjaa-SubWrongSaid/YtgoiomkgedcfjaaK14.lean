/- A part of what the law leans on: the abstract machine, the contracts, the rows. -/
import Derived.Test.YtgoiomkgedcfjaaK13
/- sub.Contract. -/
namespace Go.Ai.G
open Go.Ai
set_option maxRecDepth 100000
set_option linter.unusedSimpArgs false
set_option linter.unusedVariables false
variable {A : AProg} {φ : Nat → Nat}
theorem er45_0 (φ : Nat → Nat) : r45_0 φ = [
  ⟨0, .N .box, [.n 0], none, 0⟩,
  ⟨1, .N (.alloc [.int .i64 0, .nils]), [], none, 0⟩,
  ⟨2, .N .mv, [.c (.int .i64 0)], none, 0⟩] := Eq.trans rfl rfl
theorem er45_1 (φ : Nat → Nat) : r45_1 φ = [
  ⟨0, .N (.loadN 2), [.n 3], none, 0⟩,
  ⟨1, .calli true (φ 4), [.l 0], none, 0⟩,
  ⟨2, .N (.un .not), [.l 0], none, 0⟩,
  ⟨3, .N .mv, [.l 0], none, 0⟩] := Eq.trans rfl rfl
theorem er45_2 (φ : Nat → Nat) : r45_2 φ = [
  ⟨0, .N (.build [.int .i64 0, .nils] []), [], none, 0⟩,
  ⟨1, .X (.store 2), [.n 4, .l 0], none, 0⟩,
  ⟨2, .N .mv, [.c (.int .i64 1)], none, 0⟩] := Eq.trans rfl rfl
theorem er45_3 (φ : Nat → Nat) : r45_3 φ = [
  ⟨0, .N .mv, [.n 1], none, 0⟩,
  ⟨1, .N .mv, [.n 2], none, 0⟩,
  ⟨2, .N .min, [.l 1, .l 0], none, 0⟩,
  ⟨3, .N (.bin .lss), [.l 0, .c (.int .i64 0)], none, 0⟩,
  ⟨4, .N .mv, [.l 0], none, 0⟩,
  ⟨5, .N .mv, [.n 1], some (.l 0, false), 0⟩,
  ⟨6, .N .mv, [.n 2], some (.l 1, false), 0⟩,
  ⟨7, .N .max, [.l 1, .l 0], some (.l 2, false), 0⟩,
  ⟨8, .N (.fadd 0), [.n 3], some (.l 3, false), 0⟩,
  ⟨9, .N .load1, [.l 0], some (.l 4, false), 0⟩,
  ⟨10, .N (.bin .geq), [.l 2, .l 0], some (.l 5, false), 0⟩,
  ⟨11, .N .pick, [.l 6, .c (.bool true), .l 0], none, 0⟩,
  ⟨12, .N .mv, [.l 0], none, 0⟩] := Eq.trans rfl rfl
theorem er45_4 (φ : Nat → Nat) : r45_4 φ = [
  ⟨0, .N (.build [.int .i64 0, .nils] []), [], none, 0⟩,
  ⟨1, .X (.store 2), [.n 4, .l 0], none, 0⟩,
  ⟨2, .N .mv, [.c (.int .i64 4)], none, 0⟩] := Eq.trans rfl rfl
theorem er45_5 (φ : Nat → Nat) : r45_5 φ = [
  ⟨0, .N (.loadN 2), [.n 3], none, 0⟩,
  ⟨1, .N .mv, [.n 1], none, 0⟩,
  ⟨2, .N .mv, [.n 2], none, 0⟩,
  ⟨3, .calli true (φ 7), [.l 2, .l 1, .l 0], none, 0⟩,
  ⟨4, .N (.un .not), [.l 0], none, 0⟩,
  ⟨5, .N .mv, [.l 0], none, 0⟩] := Eq.trans rfl rfl
theorem er45_6 (φ : Nat → Nat) : r45_6 φ = [
  ⟨0, .N (.build [.int .i64 0, .nils] []), [], none, 0⟩,
  ⟨1, .X (.store 2), [.n 4, .l 0], none, 0⟩,
  ⟨2, .N .mv, [.c (.int .i64 6)], none, 0⟩] := Eq.trans rfl rfl
theorem er45_7 (φ : Nat → Nat) : r45_7 φ = [
  ⟨0, .N .mv, [.n 1], none, 0⟩,
  ⟨1, .N .mv, [.n 2], none, 0⟩,
  ⟨2, .N .min, [.l 1, .l 0], none, 0⟩,
  ⟨3, .N .mv, [.n 1], none, 0⟩,
  ⟨4, .N .mv, [.n 2], none, 0⟩,
  ⟨5, .N .max, [.l 1, .l 0], none, 0⟩,
  ⟨6, .N (.alloc [.int .i64 0]), [], none, 0⟩,
  ⟨7, .N (.alloc [.int .i64 0]), [], none, 0⟩,
  ⟨8, .X (.store 1), [.l 1, .l 5], none, 0⟩,
  ⟨9, .X (.store 1), [.l 1, .l 3], none, 0⟩] := Eq.trans rfl rfl
theorem er45_8 (φ : Nat → Nat) : r45_8 φ = [
  ⟨0, .N (.fadd 0), [.n 3], none, 0⟩,
  ⟨1, .N .load1, [.l 0], none, 0⟩,
  ⟨2, .N (.bin .sub), [.l 0, .c (.int .i64 1)], none, 0⟩,
  ⟨3, .N (.mkfn (.func (φ 58)) 0), [.n 7, .n 6], none, 0⟩,
  ⟨4, .N (.build [.int .i64 0, .nilf] [(0, 1), (1, 1)]), [.l 1, .l 0], none, 0⟩,
  ⟨5, .N (.loadN 2), [.n 3], none, 0⟩,
  ⟨6, .call (φ 54), [.l 1, .l 0], none, 0⟩,
  ⟨7, .N (.ext 0), [.l 0], none, 0⟩,
  ⟨8, .N (.ext 1), [.l 1], none, 0⟩,
  ⟨9, .X (.store 2), [.n 4, .l 1], none, 0⟩,
  ⟨10, .N .mv, [.l 1], none, 0⟩] := Eq.trans rfl rfl
theorem er58_0 (φ : Nat → Nat) : r58_0 φ = [
  ⟨0, .N .mv, [.c (.int .i64 0)], none, 0⟩] := Eq.trans rfl rfl
theorem er58_1 (φ : Nat → Nat) : r58_1 φ = [
  ⟨0, .N .mv, [.n 0], none, 0⟩,
  ⟨1, .N .load1, [.n 1], none, 0⟩,
  ⟨2, .N (.bin .eql), [.l 1, .l 0], none, 0⟩,
  ⟨3, .N .mv, [.l 0], none, 0⟩] := Eq.trans rfl rfl
theorem er58_2 (φ : Nat → Nat) : r58_2 φ = [
  ⟨0, .N .load1, [.n 2], none, 0⟩,
  ⟨1, .N .mv, [.l 0], none, 0⟩] := Eq.trans rfl rfl
theorem er58_3 (φ : Nat → Nat) : r58_3 φ = [
  ⟨0, .N .mv, [.n 0], none, 0⟩,
  ⟨1, .N .load1, [.n 1], none, 0⟩,
  ⟨2, .N (.bin .gtr), [.l 1, .l 0], none, 0⟩,
  ⟨3, .N .mv, [.l 0], none, 0⟩] := Eq.trans rfl rfl
theorem er58_4 (φ : Nat → Nat) : r58_4 φ = [
  ⟨0, .N .mv, [.n 0], none, 0⟩,
  ⟨1, .N (.bin .sub), [.l 0, .c (.int .i64 1)], none, 0⟩,
  ⟨2, .N .mv, [.l 0], none, 0⟩] := Eq.trans rfl rfl
theorem er58_5 (φ : Nat → Nat) : r58_5 φ = [
  ⟨0, .N .mv, [.n 0], none, 0⟩,
  ⟨1, .N .mv, [.l 0], none, 0⟩] := Eq.trans rfl rfl
def conI (lo hi x : Int) : Int := if x = hi then lo else if hi < x then x - 1 else x
def contractE (n : Int) (es : List Ed) (a b : Int) : Int × List Ed × Int :=
  if rightE n es = false then (0, [], 1) else if min a b < 0 ∨ n ≤ max a b then (0, [], 4) else if hasE n es a b = false then (0, [], 6) else normalE (n - 1) (mapE (conI (min a b) (max a b)) es)
theorem w_Con1 (h : Has A (φ 58) (f58 φ)) (x lo hi : Int) (hx : 0 ≤ x ∧ x ≤ 1000000) (H : Heap) (K : AV → Heap → Prop) (h1 : H[3]? = some (.cells 0 false [.int .i64 hi])) (h2 : H[2]? = some (.cells 0 false [.int .i64 lo])) (hK : K (.int .i64 (conI lo hi x)) H) : PCall A (φ 58) [.int .i64 x, .ptr 3 0 0, .ptr 2 0 0] H K := by
  refine pcall_has h rfl ?_
  have hw : IntKind.i64.wrap (x - 1) = x - 1 := wrap_in (by omega) (by omega)
  simp only [b58, f58]
  unfold conI at hK
  by_cases q1 : x = hi
  · subst q1
    rw [if_pos rfl] at hK
    simp [↓getD_z, ↓getD_s, -List.getD_eq_getElem?_getD, -Int.ofNat_toNat, -getElem?_pos, gz, ↓hid_k, ↓hid_o, ↓hid_q, ↓hid_v, ↓PO_nil, ↓PO_none, ↓PO_grd, ↓PD_nil, ↓PD_none, ↓PD_grd, ↓PDO_N, ↓PDO_X, ↓PDO_call, ↓PDO_calli, ↓PDO_callv, PDX_free, PDX_eq, ↓PStep_N, ↓PStep_X, ↓PStep_call, ↓PStep_calli, PStep_callv, ↓PC_skip, ↓PC_lab, ↓PC_ret, ↓PC_exit, ↓PC_reg, ↓PC_draw, ↓PC_seq, ↓PC_block, ↓PC_loop, ↓PC_scope, ↓PC_cond, ↓thenC_norm, ↓thenC_ret, ↓thenC_exit, ↓blockC_norm, ↓blockC_ret, ↓blockC_exit, ↓loopC_norm, ↓loopC_ret, ↓loopC_exit, ↓endR_ret, ↓endR_norm, resK_none, resK_t, resK_tt, KNO_val, KNO_new, KNO_ite, KNO_map, KXO_some, KXO_ite, KVA_t, KVA_f, KG_skip, KG_tt, KG_ff, KG_tf, KG_ft, KB_true, KB_false, KNOD_val, KNOD_new, KNOD_ite, n_mv, n_pick, n_bin, n_eqB, n_eqN, n_eqS, n_un, n_conv, n_fadd, n_faddV, n_fld1, n_fldN, n_idx, n_idxA, n_idxV, n_idxAV, n_ext, n_lenS, n_lenS0, n_lenV, n_lenT, n_lenA, n_min, n_max, n_build, n_mkfn, n_slc, n_slc0, n_slcV, n_slcA, n_load1, n_loadN, n_load1V, n_loadNV, n_alloc, n_box, n_bsl, n_mksl, n_nilcP, n_nilcV, n_nilcI, n_nilcF, x_store, x_clear0, x_clear, b_add, b_sub, b_mul, b_eql, b_neq, b_lss, b_leq, b_gtr, b_geq, b_and16, unV, ntouch, gather, hide, unhide, evalOpd, applyOuts, int_bne, int_beq, ite_bool, ite_int, one_bool, cells_bool, one_int, cells_int, one_str, cells_str, one_nilp, cells_nilp, one_ptr, cells_ptr, one_nils, cells_nils, one_sl, cells_sl, one_nilf, cells_nilf, one_fn, cells_fn, one_nili, cells_nili, one_mp, cells_mp, one_nilm, cells_nilm, one_iface, cells_iface, one_vs, cells_vs, one_vp, cells_vp, cells_agg, Nat.testBit, setAt_1, setAt_2, closeds_nil, closeds_cons, closed_bool, closed_int, closed_str, closed_nilp, closed_nils, closed_nilm, closed_nilf, closed_nili, closed_agg, closed_tup, closed_vs, closed_vp, closed_iface, closed_fn, closeds_cI, closeds_cE, viewA_closed, viewR_closed, AV.scal, AV.scal0, fillA, repA, part_bool, part_int, part_str, part_nilp, part_ptr, part_nils, part_sl, part_nilm, part_mp, part_nilf, part_fn, part_nili, part_iface, part_agg, part_vs, part_vp, viewA_sl1, vaSl_cells, wrap_0, wrap_1, wrap_2, wrap_m1, set_last, get_last, er58_0, er58_1, er58_2, er58_3, er58_4, er58_5, h1, h2, resK, resVs, resV, pack]
    exact hK
  · rw [if_neg q1] at hK
    by_cases q2 : hi < x
    · rw [if_pos q2] at hK
      simp [↓getD_z, ↓getD_s, -List.getD_eq_getElem?_getD, -Int.ofNat_toNat, -getElem?_pos, gz, ↓hid_k, ↓hid_o, ↓hid_q, ↓hid_v, ↓PO_nil, ↓PO_none, ↓PO_grd, ↓PD_nil, ↓PD_none, ↓PD_grd, ↓PDO_N, ↓PDO_X, ↓PDO_call, ↓PDO_calli, ↓PDO_callv, PDX_free, PDX_eq, ↓PStep_N, ↓PStep_X, ↓PStep_call, ↓PStep_calli, PStep_callv, ↓PC_skip, ↓PC_lab, ↓PC_ret, ↓PC_exit, ↓PC_reg, ↓PC_draw, ↓PC_seq, ↓PC_block, ↓PC_loop, ↓PC_scope, ↓PC_cond, ↓thenC_norm, ↓thenC_ret, ↓thenC_exit, ↓blockC_norm, ↓blockC_ret, ↓blockC_exit, ↓loopC_norm, ↓loopC_ret, ↓loopC_exit, ↓endR_ret, ↓endR_norm, resK_none, resK_t, resK_tt, KNO_val, KNO_new, KNO_ite, KNO_map, KXO_some, KXO_ite, KVA_t, KVA_f, KG_skip, KG_tt, KG_ff, KG_tf, KG_ft, KB_true, KB_false, KNOD_val, KNOD_new, KNOD_ite, n_mv, n_pick, n_bin, n_eqB, n_eqN, n_eqS, n_un, n_conv, n_fadd, n_faddV, n_fld1, n_fldN, n_idx, n_idxA, n_idxV, n_idxAV, n_ext, n_lenS, n_lenS0, n_lenV, n_lenT, n_lenA, n_min, n_max, n_build, n_mkfn, n_slc, n_slc0, n_slcV, n_slcA, n_load1, n_loadN, n_load1V, n_loadNV, n_alloc, n_box, n_bsl, n_mksl, n_nilcP, n_nilcV, n_nilcI, n_nilcF, x_store, x_clear0, x_clear, b_add, b_sub, b_mul, b_eql, b_neq, b_lss, b_leq, b_gtr, b_geq, b_and16, unV, ntouch, gather, hide, unhide, evalOpd, applyOuts, int_bne, int_beq, ite_bool, ite_int, one_bool, cells_bool, one_int, cells_int, one_str, cells_str, one_nilp, cells_nilp, one_ptr, cells_ptr, one_nils, cells_nils, one_sl, cells_sl, one_nilf, cells_nilf, one_fn, cells_fn, one_nili, cells_nili, one_mp, cells_mp, one_nilm, cells_nilm, one_iface, cells_iface, one_vs, cells_vs, one_vp, cells_vp, cells_agg, Nat.testBit, setAt_1, setAt_2, closeds_nil, closeds_cons, closed_bool, closed_int, closed_str, closed_nilp, closed_nils, closed_nilm, closed_nilf, closed_nili, closed_agg, closed_tup, closed_vs, closed_vp, closed_iface, closed_fn, closeds_cI, closeds_cE, viewA_closed, viewR_closed, AV.scal, AV.scal0, fillA, repA, part_bool, part_int, part_str, part_nilp, part_ptr, part_nils, part_sl, part_nilm, part_mp, part_nilf, part_fn, part_nili, part_iface, part_agg, part_vs, part_vp, viewA_sl1, vaSl_cells, wrap_0, wrap_1, wrap_2, wrap_m1, set_last, get_last, er58_0, er58_1, er58_2, er58_3, er58_4, er58_5, h1, h2, q1, q2, hw, resK, resVs, resV, pack]
      exact hK
    · rw [if_neg q2] at hK
      simp [↓getD_z, ↓getD_s, -List.getD_eq_getElem?_getD, -Int.ofNat_toNat, -getElem?_pos, gz, ↓hid_k, ↓hid_o, ↓hid_q, ↓hid_v, ↓PO_nil, ↓PO_none, ↓PO_grd, ↓PD_nil, ↓PD_none, ↓PD_grd, ↓PDO_N, ↓PDO_X, ↓PDO_call, ↓PDO_calli, ↓PDO_callv, PDX_free, PDX_eq, ↓PStep_N, ↓PStep_X, ↓PStep_call, ↓PStep_calli, PStep_callv, ↓PC_skip, ↓PC_lab, ↓PC_ret, ↓PC_exit, ↓PC_reg, ↓PC_draw, ↓PC_seq, ↓PC_block, ↓PC_loop, ↓PC_scope, ↓PC_cond, ↓thenC_norm, ↓thenC_ret, ↓thenC_exit, ↓blockC_norm, ↓blockC_ret, ↓blockC_exit, ↓loopC_norm, ↓loopC_ret, ↓loopC_exit, ↓endR_ret, ↓endR_norm, resK_none, resK_t, resK_tt, KNO_val, KNO_new, KNO_ite, KNO_map, KXO_some, KXO_ite, KVA_t, KVA_f, KG_skip, KG_tt, KG_ff, KG_tf, KG_ft, KB_true, KB_false, KNOD_val, KNOD_new, KNOD_ite, n_mv, n_pick, n_bin, n_eqB, n_eqN, n_eqS, n_un, n_conv, n_fadd, n_faddV, n_fld1, n_fldN, n_idx, n_idxA, n_idxV, n_idxAV, n_ext, n_lenS, n_lenS0, n_lenV, n_lenT, n_lenA, n_min, n_max, n_build, n_mkfn, n_slc, n_slc0, n_slcV, n_slcA, n_load1, n_loadN, n_load1V, n_loadNV, n_alloc, n_box, n_bsl, n_mksl, n_nilcP, n_nilcV, n_nilcI, n_nilcF, x_store, x_clear0, x_clear, b_add, b_sub, b_mul, b_eql, b_neq, b_lss, b_leq, b_gtr, b_geq, b_and16, unV, ntouch, gather, hide, unhide, evalOpd, applyOuts, int_bne, int_beq, ite_bool, ite_int, one_bool, cells_bool, one_int, cells_int, one_str, cells_str, one_nilp, cells_nilp, one_ptr, cells_ptr, one_nils, cells_nils, one_sl, cells_sl, one_nilf, cells_nilf, one_fn, cells_fn, one_nili, cells_nili, one_mp, cells_mp, one_nilm, cells_nilm, one_iface, cells_iface, one_vs, cells_vs, one_vp, cells_vp, cells_agg, Nat.testBit, setAt_1, setAt_2, closeds_nil, closeds_cons, closed_bool, closed_int, closed_str, closed_nilp, closed_nils, closed_nilm, closed_nilf, closed_nili, closed_agg, closed_tup, closed_vs, closed_vp, closed_iface, closed_fn, closeds_cI, closeds_cE, viewA_closed, viewR_closed, AV.scal, AV.scal0, fillA, repA, part_bool, part_int, part_str, part_nilp, part_ptr, part_nils, part_sl, part_nilm, part_mp, part_nilf, part_fn, part_nili, part_iface, part_agg, part_vs, part_vp, viewA_sl1, vaSl_cells, wrap_0, wrap_1, wrap_2, wrap_m1, set_last, get_last, er58_0, er58_1, er58_2, er58_3, er58_4, er58_5, h1, h2, q1, q2, resK, resVs, resV, pack]
      exact hK
set_option maxHeartbeats 1000000 in
theorem w_renamed2 (h : Has A (φ 54) (f54 φ)) (hN : NormalC A (φ 1)) (f : Int → Int) (fid : Nat) (cap cap2 : AV) (m N : Int) (u : AV) (es : List Ed) (hv : IsE u es) (hn : es.length ≤ 4000) (H : Heap) {K : AV → Heap → Prop} (hcap : cap.one = true) (hcap2 : cap2.one = true)
    (hclo : ∀ e ∈ es, ∀ x, x = e.1 ∨ x = e.2 → ∀ (H' : Heap) (K' : AV → Heap → Prop), (∀ b, b < H.length → H'[b]? = H[b]?) → K' (.int .i64 (f x)) H' → PCall A fid [.int .i64 x, cap, cap2] H' K')
    (hk : ∀ H', (∀ b, b < H.length → H'[b]? = H[b]?) → H.length ≤ H'.length → K (nR m (mapE f es)) H') : PCall A (φ 54) [.agg [.int .i64 m, .fn (.func fid) [] [cap, cap2]], gV N u] H K := by
  have hlen := hv.len
  have hone := hv.one
  refine pcall_has h rfl ?_
  simp only [l54_9, b54, f54]
  simp [↓getD_z, ↓getD_s, -List.getD_eq_getElem?_getD, -Int.ofNat_toNat, -getElem?_pos, gz, ↓hid_k, ↓hid_o, ↓hid_q, ↓hid_v, ↓PO_nil, ↓PO_none, ↓PO_grd, ↓PD_nil, ↓PD_none, ↓PD_grd, ↓PDO_N, ↓PDO_X, ↓PDO_call, ↓PDO_calli, ↓PDO_callv, PDX_free, PDX_eq, ↓PStep_N, ↓PStep_X, ↓PStep_call, ↓PStep_calli, PStep_callv, ↓PC_skip, ↓PC_lab, ↓PC_ret, ↓PC_exit, ↓PC_reg, ↓PC_draw, ↓PC_seq, ↓PC_block, ↓PC_loop, ↓PC_scope, ↓PC_cond, ↓thenC_norm, ↓thenC_ret, ↓thenC_exit, ↓blockC_norm, ↓blockC_ret, ↓blockC_exit, ↓loopC_norm, ↓loopC_ret, ↓loopC_exit, ↓endR_ret, ↓endR_norm, resK_none, resK_t, resK_tt, KNO_val, KNO_new, KNO_ite, KNO_map, KXO_some, KXO_ite, KVA_t, KVA_f, KG_skip, KG_tt, KG_ff, KG_tf, KG_ft, KB_true, KB_false, KNOD_val, KNOD_new, KNOD_ite, n_mv, n_pick, n_bin, n_eqB, n_eqN, n_eqS, n_un, n_conv, n_fadd, n_faddV, n_fld1, n_fldN, n_idx, n_idxA, n_idxV, n_idxAV, n_ext, n_lenS, n_lenS0, n_lenV, n_lenT, n_lenA, n_min, n_max, n_build, n_mkfn, n_slc, n_slc0, n_slcV, n_slcA, n_load1, n_loadN, n_load1V, n_loadNV, n_alloc, n_box, n_bsl, n_mksl, n_nilcP, n_nilcV, n_nilcI, n_nilcF, x_store, x_clear0, x_clear, b_add, b_sub, b_mul, b_eql, b_neq, b_lss, b_leq, b_gtr, b_geq, b_and16, unV, ntouch, gather, hide, unhide, evalOpd, applyOuts, int_bne, int_beq, ite_bool, ite_int, one_bool, cells_bool, one_int, cells_int, one_str, cells_str, one_nilp, cells_nilp, one_ptr, cells_ptr, one_nils, cells_nils, one_sl, cells_sl, one_nilf, cells_nilf, one_fn, cells_fn, one_nili, cells_nili, one_mp, cells_mp, one_nilm, cells_nilm, one_iface, cells_iface, one_vs, cells_vs, one_vp, cells_vp, cells_agg, Nat.testBit, setAt_1, setAt_2, closeds_nil, closeds_cons, closed_bool, closed_int, closed_str, closed_nilp, closed_nils, closed_nilm, closed_nilf, closed_nili, closed_agg, closed_tup, closed_vs, closed_vp, closed_iface, closed_fn, closeds_cI, closeds_cE, viewA_closed, viewR_closed, AV.scal, AV.scal0, fillA, repA, part_bool, part_int, part_str, part_nilp, part_ptr, part_nils, part_sl, part_nilm, part_mp, part_nilf, part_fn, part_nili, part_iface, part_agg, part_vs, part_vp, viewA_sl1, vaSl_cells, wrap_0, wrap_1, wrap_2, wrap_m1, set_last, get_last, er54_0, er54_1, er54_2, er54_3, er54_4, er54_5, er54_6, er54_7, er54_8, er54_10, hlen, hone, get_at, get_at0, set_at, set_at0]
  refine pc_loopI (fun k st => ∃ (i : Nat) (l x a b p13 p14 : AV) (H' : Heap), i + k = es.length ∧ OwnE true (H.length + 3) H' l (mapE f (es.take i)) ∧
      H'[H.length]? = some (.cells 0 false [.int .i64 m, .fn (.func fid) [] [cap, cap2]]) ∧ H'[H.length + 1]? = some (.cells 0 false [.int .i64 N, u]) ∧ H'[H.length + 2]? = some (.cells 0 false [.int .i64 0, .nils]) ∧ (∀ b, b < H.length → H'[b]? = H[b]?) ∧
      st = ([.agg [.int .i64 m, .fn (.func fid) [] [cap, cap2]], gV N u, .ptr H.length 0 0, .ptr (H.length + 1) 0 0, .ptr (H.length + 2) 0 0, .int .i64 0, l, x, a, b, u, .int .i64 es.length, .int .i64 i, p13, p14], H')) es.length
      ⟨0, _, _, _, _, _, _, _, by simp, own_nil _ _ _, get_at0 _ _, get_at _ _ 1, get_at _ _ 2, fun b hb => List.getElem?_append_left hb, rfl⟩ ?_
  rintro k st ⟨i, l, x, a, b, p13, p14, H', hi, ho, g0, g1, g2, hold, rfl⟩
  have hb2 := lt_of_get g2
  by_cases hlt : i < es.length
  · have hlt' : (i : Int) < es.length := by omega
    obtain ⟨i1, z1, z2, le1, t1⟩ := hv.at hlt
    have hw1 := wrap1 hlt (by omega)
    have hts : mapE f (es.take (i + 1)) = mapE f (es.take i) ++ (if 0 ≤ f es[i].1 ∧ 0 ≤ f es[i].2 then [(f es[i].1, f es[i].2)] else []) := by rw [List.take_succ_eq_append_getElem hlt, mapE_snoc]
    have hmem := List.getElem_mem hlt
    generalize es[i] = e at *
    have g0J : ∀ J, (H' ++ J)[H.length]? = some (.cells 0 false [.int .i64 m, .fn (.func fid) [] [cap, cap2]]) := fun J => get_more J g0
    simp [↓getD_z, ↓getD_s, -List.getD_eq_getElem?_getD, -Int.ofNat_toNat, -getElem?_pos, gz, ↓hid_k, ↓hid_o, ↓hid_q, ↓hid_v, ↓PO_nil, ↓PO_none, ↓PO_grd, ↓PD_nil, ↓PD_none, ↓PD_grd, ↓PDO_N, ↓PDO_X, ↓PDO_call, ↓PDO_calli, ↓PDO_callv, PDX_free, PDX_eq, ↓PStep_N, ↓PStep_X, ↓PStep_call, ↓PStep_calli, PStep_callv, ↓PC_skip, ↓PC_lab, ↓PC_ret, ↓PC_exit, ↓PC_reg, ↓PC_draw, ↓PC_seq, ↓PC_block, ↓PC_loop, ↓PC_scope, ↓PC_cond, ↓thenC_norm, ↓thenC_ret, ↓thenC_exit, ↓blockC_norm, ↓blockC_ret, ↓blockC_exit, ↓loopC_norm, ↓loopC_ret, ↓loopC_exit, ↓endR_ret, ↓endR_norm, resK_none, resK_t, resK_tt, KNO_val, KNO_new, KNO_ite, KNO_map, KXO_some, KXO_ite, KVA_t, KVA_f, KG_skip, KG_tt, KG_ff, KG_tf, KG_ft, KB_true, KB_false, KNOD_val, KNOD_new, KNOD_ite, n_mv, n_pick, n_bin, n_eqB, n_eqN, n_eqS, n_un, n_conv, n_fadd, n_faddV, n_fld1, n_fldN, n_idx, n_idxA, n_idxV, n_idxAV, n_ext, n_lenS, n_lenS0, n_lenV, n_lenT, n_lenA, n_min, n_max, n_build, n_mkfn, n_slc, n_slc0, n_slcV, n_slcA, n_load1, n_loadN, n_load1V, n_loadNV, n_alloc, n_box, n_bsl, n_mksl, n_nilcP, n_nilcV, n_nilcI, n_nilcF, x_store, x_clear0, x_clear, b_add, b_sub, b_mul, b_eql, b_neq, b_lss, b_leq, b_gtr, b_geq, b_and16, unV, ntouch, gather, hide, unhide, evalOpd, applyOuts, int_bne, int_beq, ite_bool, ite_int, one_bool, cells_bool, one_int, cells_int, one_str, cells_str, one_nilp, cells_nilp, one_ptr, cells_ptr, one_nils, cells_nils, one_sl, cells_sl, one_nilf, cells_nilf, one_fn, cells_fn, one_nili, cells_nili, one_mp, cells_mp, one_nilm, cells_nilm, one_iface, cells_iface, one_vs, cells_vs, one_vp, cells_vp, cells_agg, Nat.testBit, setAt_1, setAt_2, closeds_nil, closeds_cons, closed_bool, closed_int, closed_str, closed_nilp, closed_nils, closed_nilm, closed_nilf, closed_nili, closed_agg, closed_tup, closed_vs, closed_vp, closed_iface, closed_fn, closeds_cI, closeds_cE, viewA_closed, viewR_closed, AV.scal, AV.scal0, fillA, repA, part_bool, part_int, part_str, part_nilp, part_ptr, part_nils, part_sl, part_nilm, part_mp, part_nilf, part_fn, part_nili, part_iface, part_agg, part_vs, part_vp, viewA_sl1, vaSl_cells, wrap_0, wrap_1, wrap_2, wrap_m1, set_last, get_last, er54_0, er54_1, er54_2, er54_3, er54_4, er54_5, er54_6, er54_7, er54_8, er54_10, hlt', i1, z1, z2, le1, t1, g0, g0J, get_at, get_at0, set_at, set_at0, PDX_eq]
    have hk1 : ∀ b, b < H.length → (H' ++ [.cells 0 false [.int .i64 e.1, .int .i64 e.2]])[b]? = H[b]? := fun b hb => by
      rw [List.getElem?_append_left (by omega)]; exact hold b hb
    refine hclo e hmem e.1 (.inl rfl) _ _ hk1 ?_
    simp only [hid_k]
    refine ⟨fun b _ => trivial, ?_⟩
    simp [↓getD_z, ↓getD_s, -List.getD_eq_getElem?_getD, -Int.ofNat_toNat, -getElem?_pos, gz, ↓hid_k, ↓hid_o, ↓hid_q, ↓hid_v, ↓PO_nil, ↓PO_none, ↓PO_grd, ↓PD_nil, ↓PD_none, ↓PD_grd, ↓PDO_N, ↓PDO_X, ↓PDO_call, ↓PDO_calli, ↓PDO_callv, PDX_free, PDX_eq, ↓PStep_N, ↓PStep_X, ↓PStep_call, ↓PStep_calli, PStep_callv, ↓PC_skip, ↓PC_lab, ↓PC_ret, ↓PC_exit, ↓PC_reg, ↓PC_draw, ↓PC_seq, ↓PC_block, ↓PC_loop, ↓PC_scope, ↓PC_cond, ↓thenC_norm, ↓thenC_ret, ↓thenC_exit, ↓blockC_norm, ↓blockC_ret, ↓blockC_exit, ↓loopC_norm, ↓loopC_ret, ↓loopC_exit, ↓endR_ret, ↓endR_norm, resK_none, resK_t, resK_tt, KNO_val, KNO_new, KNO_ite, KNO_map, KXO_some, KXO_ite, KVA_t, KVA_f, KG_skip, KG_tt, KG_ff, KG_tf, KG_ft, KB_true, KB_false, KNOD_val, KNOD_new, KNOD_ite, n_mv, n_pick, n_bin, n_eqB, n_eqN, n_eqS, n_un, n_conv, n_fadd, n_faddV, n_fld1, n_fldN, n_idx, n_idxA, n_idxV, n_idxAV, n_ext, n_lenS, n_lenS0, n_lenV, n_lenT, n_lenA, n_min, n_max, n_build, n_mkfn, n_slc, n_slc0, n_slcV, n_slcA, n_load1, n_loadN, n_load1V, n_loadNV, n_alloc, n_box, n_bsl, n_mksl, n_nilcP, n_nilcV, n_nilcI, n_nilcF, x_store, x_clear0, x_clear, b_add, b_sub, b_mul, b_eql, b_neq, b_lss, b_leq, b_gtr, b_geq, b_and16, unV, ntouch, gather, hide, unhide, evalOpd, applyOuts, int_bne, int_beq, ite_bool, ite_int, one_bool, cells_bool, one_int, cells_int, one_str, cells_str, one_nilp, cells_nilp, one_ptr, cells_ptr, one_nils, cells_nils, one_sl, cells_sl, one_nilf, cells_nilf, one_fn, cells_fn, one_nili, cells_nili, one_mp, cells_mp, one_nilm, cells_nilm, one_iface, cells_iface, one_vs, cells_vs, one_vp, cells_vp, cells_agg, Nat.testBit, setAt_1, setAt_2, closeds_nil, closeds_cons, closed_bool, closed_int, closed_str, closed_nilp, closed_nils, closed_nilm, closed_nilf, closed_nili, closed_agg, closed_tup, closed_vs, closed_vp, closed_iface, closed_fn, closeds_cI, closeds_cE, viewA_closed, viewR_closed, AV.scal, AV.scal0, fillA, repA, part_bool, part_int, part_str, part_nilp, part_ptr, part_nils, part_sl, part_nilm, part_mp, part_nilf, part_fn, part_nili, part_iface, part_agg, part_vs, part_vp, viewA_sl1, vaSl_cells, wrap_0, wrap_1, wrap_2, wrap_m1, set_last, get_last, er54_0, er54_1, er54_2, er54_3, er54_4, er54_5, er54_6, er54_7, er54_8, er54_10, PDX_eq]
    refine hclo e hmem e.2 (.inr rfl) _ _ hk1 ?_
    simp only [hid_k]
    refine ⟨fun b _ => trivial, ?_⟩
    have hml := mapE_len f (es.take i)
    have hml2 : (es.take i).length ≤ es.length := by simp; omega
    obtain ⟨l1, H1, x1, x2, x3, x4, x5, x6⟩ := OwnE.app1 (ho.more [.cells 0 false [.int .i64 e.1, .int .i64 e.2]]) (f e.1) (f e.2) (by simp; omega) (by omega)
    simp only [List.append_assoc, List.cons_append, List.nil_append, List.length_append, List.length_cons, List.length_nil, Nat.zero_add] at x1
    by_cases q : 0 ≤ f e.1 ∧ 0 ≤ f e.2
    · rw [if_pos q] at hts
      obtain ⟨q1, q2⟩ := q
      simp [↓getD_z, ↓getD_s, -List.getD_eq_getElem?_getD, -Int.ofNat_toNat, -getElem?_pos, gz, ↓hid_k, ↓hid_o, ↓hid_q, ↓hid_v, ↓PO_nil, ↓PO_none, ↓PO_grd, ↓PD_nil, ↓PD_none, ↓PD_grd, ↓PDO_N, ↓PDO_X, ↓PDO_call, ↓PDO_calli, ↓PDO_callv, PDX_free, PDX_eq, ↓PStep_N, ↓PStep_X, ↓PStep_call, ↓PStep_calli, PStep_callv, ↓PC_skip, ↓PC_lab, ↓PC_ret, ↓PC_exit, ↓PC_reg, ↓PC_draw, ↓PC_seq, ↓PC_block, ↓PC_loop, ↓PC_scope, ↓PC_cond, ↓thenC_norm, ↓thenC_ret, ↓thenC_exit, ↓blockC_norm, ↓blockC_ret, ↓blockC_exit, ↓loopC_norm, ↓loopC_ret, ↓loopC_exit, ↓endR_ret, ↓endR_norm, resK_none, resK_t, resK_tt, KNO_val, KNO_new, KNO_ite, KNO_map, KXO_some, KXO_ite, KVA_t, KVA_f, KG_skip, KG_tt, KG_ff, KG_tf, KG_ft, KB_true, KB_false, KNOD_val, KNOD_new, KNOD_ite, n_mv, n_pick, n_bin, n_eqB, n_eqN, n_eqS, n_un, n_conv, n_fadd, n_faddV, n_fld1, n_fldN, n_idx, n_idxA, n_idxV, n_idxAV, n_ext, n_lenS, n_lenS0, n_lenV, n_lenT, n_lenA, n_min, n_max, n_build, n_mkfn, n_slc, n_slc0, n_slcV, n_slcA, n_load1, n_loadN, n_load1V, n_loadNV, n_alloc, n_box, n_bsl, n_mksl, n_nilcP, n_nilcV, n_nilcI, n_nilcF, x_store, x_clear0, x_clear, b_add, b_sub, b_mul, b_eql, b_neq, b_lss, b_leq, b_gtr, b_geq, b_and16, unV, ntouch, gather, hide, unhide, evalOpd, applyOuts, int_bne, int_beq, ite_bool, ite_int, one_bool, cells_bool, one_int, cells_int, one_str, cells_str, one_nilp, cells_nilp, one_ptr, cells_ptr, one_nils, cells_nils, one_sl, cells_sl, one_nilf, cells_nilf, one_fn, cells_fn, one_nili, cells_nili, one_mp, cells_mp, one_nilm, cells_nilm, one_iface, cells_iface, one_vs, cells_vs, one_vp, cells_vp, cells_agg, Nat.testBit, setAt_1, setAt_2, closeds_nil, closeds_cons, closed_bool, closed_int, closed_str, closed_nilp, closed_nils, closed_nilm, closed_nilf, closed_nili, closed_agg, closed_tup, closed_vs, closed_vp, closed_iface, closed_fn, closeds_cI, closeds_cE, viewA_closed, viewR_closed, AV.scal, AV.scal0, fillA, repA, part_bool, part_int, part_str, part_nilp, part_ptr, part_nils, part_sl, part_nilm, part_mp, part_nilf, part_fn, part_nili, part_iface, part_agg, part_vs, part_vp, viewA_sl1, vaSl_cells, wrap_0, wrap_1, wrap_2, wrap_m1, set_last, get_last, er54_0, er54_1, er54_2, er54_3, er54_4, er54_5, er54_6, er54_7, er54_8, er54_10, q1, q2, x1, hw1]
      refine next_mk (k - 1) (by omega) ⟨i + 1, l1, _, _, _, _, _, H1, by omega, by rw [hts]; exact x2, ?_, ?_, ?_, fun b hb => ?_, rfl⟩
      · rw [x3 _ (by omega)]; exact g0J _
      · rw [x3 _ (by omega)]; exact get_more _ g1
      · rw [x3 _ (by omega)]; exact get_more _ g2
      · rw [x3 _ (by omega)]; exact hk1 b hb
    · rw [if_neg q, List.append_nil] at hts
      have fin : nextC (fun k st => ∃ (i : Nat) (l x a b p13 p14 : AV) (H' : Heap), i + k = es.length ∧ OwnE true (H.length + 3) H' l (mapE f (es.take i)) ∧
      H'[H.length]? = some (.cells 0 false [.int .i64 m, .fn (.func fid) [] [cap, cap2]]) ∧ H'[H.length + 1]? = some (.cells 0 false [.int .i64 N, u]) ∧ H'[H.length + 2]? = some (.cells 0 false [.int .i64 0, .nils]) ∧ (∀ b, b < H.length → H'[b]? = H[b]?) ∧
      st = ([.agg [.int .i64 m, .fn (.func fid) [] [cap, cap2]], gV N u, .ptr H.length 0 0, .ptr (H.length + 1) 0 0, .ptr (H.length + 2) 0 0, .int .i64 0, l, x, a, b, u, .int .i64 es.length, .int .i64 i, p13, p14], H')) () k
        ([.agg [.int .i64 m, .fn (.func fid) [] [cap, cap2]], gV N u, .ptr H.length 0 0, .ptr (H.length + 1) 0 0, .ptr (H.length + 2) 0 0, .int .i64 0, l, .ptr H'.length 0 0, .int .i64 (f e.1), .int .i64 (f e.2), u, .int .i64 es.length, .int .i64 ((i : Int) + 1), .bool true, .bool false], H' ++ [.cells 0 false [.int .i64 e.1, .int .i64 e.2]]) := by
        exact next_mk (k - 1) (by omega) ⟨i + 1, l, _, _, _, _, _, _, by omega, by rw [hts]; exact ho.more _, g0J _, get_more _ g1, get_more _ g2, hk1, rfl⟩
      by_cases q1 : 0 ≤ f e.1
      · have q2 : ¬ 0 ≤ f e.2 := fun h => q ⟨q1, h⟩
        simp [↓getD_z, ↓getD_s, -List.getD_eq_getElem?_getD, -Int.ofNat_toNat, -getElem?_pos, gz, ↓hid_k, ↓hid_o, ↓hid_q, ↓hid_v, ↓PO_nil, ↓PO_none, ↓PO_grd, ↓PD_nil, ↓PD_none, ↓PD_grd, ↓PDO_N, ↓PDO_X, ↓PDO_call, ↓PDO_calli, ↓PDO_callv, PDX_free, PDX_eq, ↓PStep_N, ↓PStep_X, ↓PStep_call, ↓PStep_calli, PStep_callv, ↓PC_skip, ↓PC_lab, ↓PC_ret, ↓PC_exit, ↓PC_reg, ↓PC_draw, ↓PC_seq, ↓PC_block, ↓PC_loop, ↓PC_scope, ↓PC_cond, ↓thenC_norm, ↓thenC_ret, ↓thenC_exit, ↓blockC_norm, ↓blockC_ret, ↓blockC_exit, ↓loopC_norm, ↓loopC_ret, ↓loopC_exit, ↓endR_ret, ↓endR_norm, resK_none, resK_t, resK_tt, KNO_val, KNO_new, KNO_ite, KNO_map, KXO_some, KXO_ite, KVA_t, KVA_f, KG_skip, KG_tt, KG_ff, KG_tf, KG_ft, KB_true, KB_false, KNOD_val, KNOD_new, KNOD_ite, n_mv, n_pick, n_bin, n_eqB, n_eqN, n_eqS, n_un, n_conv, n_fadd, n_faddV, n_fld1, n_fldN, n_idx, n_idxA, n_idxV, n_idxAV, n_ext, n_lenS, n_lenS0, n_lenV, n_lenT, n_lenA, n_min, n_max, n_build, n_mkfn, n_slc, n_slc0, n_slcV, n_slcA, n_load1, n_loadN, n_load1V, n_loadNV, n_alloc, n_box, n_bsl, n_mksl, n_nilcP, n_nilcV, n_nilcI, n_nilcF, x_store, x_clear0, x_clear, b_add, b_sub, b_mul, b_eql, b_neq, b_lss, b_leq, b_gtr, b_geq, b_and16, unV, ntouch, gather, hide, unhide, evalOpd, applyOuts, int_bne, int_beq, ite_bool, ite_int, one_bool, cells_bool, one_int, cells_int, one_str, cells_str, one_nilp, cells_nilp, one_ptr, cells_ptr, one_nils, cells_nils, one_sl, cells_sl, one_nilf, cells_nilf, one_fn, cells_fn, one_nili, cells_nili, one_mp, cells_mp, one_nilm, cells_nilm, one_iface, cells_iface, one_vs, cells_vs, one_vp, cells_vp, cells_agg, Nat.testBit, setAt_1, setAt_2, closeds_nil, closeds_cons, closed_bool, closed_int, closed_str, closed_nilp, closed_nils, closed_nilm, closed_nilf, closed_nili, closed_agg, closed_tup, closed_vs, closed_vp, closed_iface, closed_fn, closeds_cI, closeds_cE, viewA_closed, viewR_closed, AV.scal, AV.scal0, fillA, repA, part_bool, part_int, part_str, part_nilp, part_ptr, part_nils, part_sl, part_nilm, part_mp, part_nilf, part_fn, part_nili, part_iface, part_agg, part_vs, part_vp, viewA_sl1, vaSl_cells, wrap_0, wrap_1, wrap_2, wrap_m1, set_last, get_last, er54_0, er54_1, er54_2, er54_3, er54_4, er54_5, er54_6, er54_7, er54_8, er54_10, q1, q2, hw1]
        simpa using fin
      · simp [↓getD_z, ↓getD_s, -List.getD_eq_getElem?_getD, -Int.ofNat_toNat, -getElem?_pos, gz, ↓hid_k, ↓hid_o, ↓hid_q, ↓hid_v, ↓PO_nil, ↓PO_none, ↓PO_grd, ↓PD_nil, ↓PD_none, ↓PD_grd, ↓PDO_N, ↓PDO_X, ↓PDO_call, ↓PDO_calli, ↓PDO_callv, PDX_free, PDX_eq, ↓PStep_N, ↓PStep_X, ↓PStep_call, ↓PStep_calli, PStep_callv, ↓PC_skip, ↓PC_lab, ↓PC_ret, ↓PC_exit, ↓PC_reg, ↓PC_draw, ↓PC_seq, ↓PC_block, ↓PC_loop, ↓PC_scope, ↓PC_cond, ↓thenC_norm, ↓thenC_ret, ↓thenC_exit, ↓blockC_norm, ↓blockC_ret, ↓blockC_exit, ↓loopC_norm, ↓loopC_ret, ↓loopC_exit, ↓endR_ret, ↓endR_norm, resK_none, resK_t, resK_tt, KNO_val, KNO_new, KNO_ite, KNO_map, KXO_some, KXO_ite, KVA_t, KVA_f, KG_skip, KG_tt, KG_ff, KG_tf, KG_ft, KB_true, KB_false, KNOD_val, KNOD_new, KNOD_ite, n_mv, n_pick, n_bin, n_eqB, n_eqN, n_eqS, n_un, n_conv, n_fadd, n_faddV, n_fld1, n_fldN, n_idx, n_idxA, n_idxV, n_idxAV, n_ext, n_lenS, n_lenS0, n_lenV, n_lenT, n_lenA, n_min, n_max, n_build, n_mkfn, n_slc, n_slc0, n_slcV, n_slcA, n_load1, n_loadN, n_load1V, n_loadNV, n_alloc, n_box, n_bsl, n_mksl, n_nilcP, n_nilcV, n_nilcI, n_nilcF, x_store, x_clear0, x_clear, b_add, b_sub, b_mul, b_eql, b_neq, b_lss, b_leq, b_gtr, b_geq, b_and16, unV, ntouch, gather, hide, unhide, evalOpd, applyOuts, int_bne, int_beq, ite_bool, ite_int, one_bool, cells_bool, one_int, cells_int, one_str, cells_str, one_nilp, cells_nilp, one_ptr, cells_ptr, one_nils, cells_nils, one_sl, cells_sl, one_nilf, cells_nilf, one_fn, cells_fn, one_nili, cells_nili, one_mp, cells_mp, one_nilm, cells_nilm, one_iface, cells_iface, one_vs, cells_vs, one_vp, cells_vp, cells_agg, Nat.testBit, setAt_1, setAt_2, closeds_nil, closeds_cons, closed_bool, closed_int, closed_str, closed_nilp, closed_nils, closed_nilm, closed_nilf, closed_nili, closed_agg, closed_tup, closed_vs, closed_vp, closed_iface, closed_fn, closeds_cI, closeds_cE, viewA_closed, viewR_closed, AV.scal, AV.scal0, fillA, repA, part_bool, part_int, part_str, part_nilp, part_ptr, part_nils, part_sl, part_nilm, part_mp, part_nilf, part_fn, part_nili, part_iface, part_agg, part_vs, part_vp, viewA_sl1, vaSl_cells, wrap_0, wrap_1, wrap_2, wrap_m1, set_last, get_last, er54_0, er54_1, er54_2, er54_3, er54_4, er54_5, er54_6, er54_7, er54_8, er54_10, q1, hw1]
        simpa using fin
  · have hlt' : ¬ (i : Int) < es.length := by omega
    have htk : es.take i = es := List.take_of_length_le (by omega)
    rw [htk] at ho
    have hml := mapE_len f es
    have va := (Own.vw ho).r2 (closeds_cE _) (.int .i64 m) rfl
    have hbo : ∀ b, blkOf l = some b → H.length + 3 ≤ b := fun b hb => (Own.blk ho hb).1
    have hF : ∀ b, b < H.length + 3 → (frzOf H' l)[b]? = H'[b]? := fun b hb => frzOf_get _ _ (fun h => by have := hbo b h; omega)
    have hFl := frzOf_len H' l
    have i1 : IsE (rv true (mapE f es).length 2 (cellsE (mapE f es))) (mapE f es) := is_rv (cellsE_length _) (closeds_cE _)
    have c1 := (hN m _ (mapE f es) i1 (by omega)).eq
    have f0 := (hF H.length (by omega)).trans g0
    have f2 := (hF (H.length + 2) (by omega)).trans g2
    generalize frzOf H' l = F at *
    generalize hu1 : rv true (mapE f es).length 2 (cellsE (mapE f es)) = u1 at *
    have hxl := normalE_len m (mapE f es)
    simp only [nR] at c1 hk
    generalize normalE m (mapE f es) = y at *
    have iy := isE_r y.2.1
    have hset : ∀ z, (F.set (H.length + 2) z)[H.length + 2]? = some z := fun z => List.getElem?_set_self (by omega)
    simp [↓getD_z, ↓getD_s, -List.getD_eq_getElem?_getD, -Int.ofNat_toNat, -getElem?_pos, gz, ↓hid_k, ↓hid_o, ↓hid_q, ↓hid_v, ↓PO_nil, ↓PO_none, ↓PO_grd, ↓PD_nil, ↓PD_none, ↓PD_grd, ↓PDO_N, ↓PDO_X, ↓PDO_call, ↓PDO_calli, ↓PDO_callv, PDX_free, PDX_eq, ↓PStep_N, ↓PStep_X, ↓PStep_call, ↓PStep_calli, PStep_callv, ↓PC_skip, ↓PC_lab, ↓PC_ret, ↓PC_exit, ↓PC_reg, ↓PC_draw, ↓PC_seq, ↓PC_block, ↓PC_loop, ↓PC_scope, ↓PC_cond, ↓thenC_norm, ↓thenC_ret, ↓thenC_exit, ↓blockC_norm, ↓blockC_ret, ↓blockC_exit, ↓loopC_norm, ↓loopC_ret, ↓loopC_exit, ↓endR_ret, ↓endR_norm, resK_none, resK_t, resK_tt, KNO_val, KNO_new, KNO_ite, KNO_map, KXO_some, KXO_ite, KVA_t, KVA_f, KG_skip, KG_tt, KG_ff, KG_tf, KG_ft, KB_true, KB_false, KNOD_val, KNOD_new, KNOD_ite, n_mv, n_pick, n_bin, n_eqB, n_eqN, n_eqS, n_un, n_conv, n_fadd, n_faddV, n_fld1, n_fldN, n_idx, n_idxA, n_idxV, n_idxAV, n_ext, n_lenS, n_lenS0, n_lenV, n_lenT, n_lenA, n_min, n_max, n_build, n_mkfn, n_slc, n_slc0, n_slcV, n_slcA, n_load1, n_loadN, n_load1V, n_loadNV, n_alloc, n_box, n_bsl, n_mksl, n_nilcP, n_nilcV, n_nilcI, n_nilcF, x_store, x_clear0, x_clear, b_add, b_sub, b_mul, b_eql, b_neq, b_lss, b_leq, b_gtr, b_geq, b_and16, unV, ntouch, gather, hide, unhide, evalOpd, applyOuts, int_bne, int_beq, ite_bool, ite_int, one_bool, cells_bool, one_int, cells_int, one_str, cells_str, one_nilp, cells_nilp, one_ptr, cells_ptr, one_nils, cells_nils, one_sl, cells_sl, one_nilf, cells_nilf, one_fn, cells_fn, one_nili, cells_nili, one_mp, cells_mp, one_nilm, cells_nilm, one_iface, cells_iface, one_vs, cells_vs, one_vp, cells_vp, cells_agg, Nat.testBit, setAt_1, setAt_2, closeds_nil, closeds_cons, closed_bool, closed_int, closed_str, closed_nilp, closed_nils, closed_nilm, closed_nilf, closed_nili, closed_agg, closed_tup, closed_vs, closed_vp, closed_iface, closed_fn, closeds_cI, closeds_cE, viewA_closed, viewR_closed, AV.scal, AV.scal0, fillA, repA, part_bool, part_int, part_str, part_nilp, part_ptr, part_nils, part_sl, part_nilm, part_mp, part_nilf, part_fn, part_nili, part_iface, part_agg, part_vs, part_vp, viewA_sl1, vaSl_cells, wrap_0, wrap_1, wrap_2, wrap_m1, set_last, get_last, er54_0, er54_1, er54_2, er54_3, er54_4, er54_5, er54_6, er54_7, er54_8, er54_10, hlt', g0, va, c1, f0, f2, iy.one, iy.cells, iy.closed, hset, resK, resVs, resV, pack]
    refine hk _ (fun b hb => ?_) (by simp; omega)
    rw [List.getElem?_set_ne (by omega), hF b (by omega)]; exact hold b hb
theorem w_Contract (h : Has A (φ 45) (f45 φ)) (h1 : Has A (φ 58) (f58 φ)) (h2 : Has A (φ 54) (f54 φ)) (hN : NormalC A (φ 1)) (hRc : RightC A (φ 4)) (hH : ∀ n a b v es, IsE v es → PVal A (φ 7) [gV n v, .int .i64 a, .int .i64 b] (.bool (hasE n es a b)))
    (n : Int) (v : AV) (es : List Ed) (hv : IsE v es) (a b : Int) :
    PVal A (φ 45) [gV n v, .int .i64 a, .int .i64 b] (gR (contractE n es a b)) := by
  have hone := hv.one
  have hcl := hv.closed
  have cR := (hRc n v es hv).eq
  have cH := (hH n a b v es hv).eq
  have m1 := minV_i a b
  have m2 := maxV_i a b
  have hnil : rE ([] : List Ed) = AV.nils := rfl
  have hdef : contractE n es a b = if rightE n es = false then (0, [], 1) else if min a b < 0 ∨ n ≤ max a b then (0, [], 4) else if hasE n es a b = false then (0, [], 6) else normalE (n - 1) (mapE (conI (min a b) (max a b)) es) := rfl
  generalize min a b = lo at *
  generalize max a b = hi at *
  refine pval_has h rfl ?_
  simp only [b45, f45]
  by_cases hR : rightE n es = true
  · have hn := right_len hR
    have hrb := right_ends hR
    simp [hR] at cR
    rw [if_neg (by simp [hR])] at hdef
    by_cases hb : lo < 0 ∨ n ≤ hi
    · rw [if_pos hb] at hdef
      by_cases q1 : lo < 0
      · simp [↓getD_z, ↓getD_s, -List.getD_eq_getElem?_getD, -Int.ofNat_toNat, -getElem?_pos, gz, ↓hid_k, ↓hid_o, ↓hid_q, ↓hid_v, ↓PO_nil, ↓PO_none, ↓PO_grd, ↓PD_nil, ↓PD_none, ↓PD_grd, ↓PDO_N, ↓PDO_X, ↓PDO_call, ↓PDO_calli, ↓PDO_callv, PDX_free, PDX_eq, ↓PStep_N, ↓PStep_X, ↓PStep_call, ↓PStep_calli, PStep_callv, ↓PC_skip, ↓PC_lab, ↓PC_ret, ↓PC_exit, ↓PC_reg, ↓PC_draw, ↓PC_seq, ↓PC_block, ↓PC_loop, ↓PC_scope, ↓PC_cond, ↓thenC_norm, ↓thenC_ret, ↓thenC_exit, ↓blockC_norm, ↓blockC_ret, ↓blockC_exit, ↓loopC_norm, ↓loopC_ret, ↓loopC_exit, ↓endR_ret, ↓endR_norm, resK_none, resK_t, resK_tt, KNO_val, KNO_new, KNO_ite, KNO_map, KXO_some, KXO_ite, KVA_t, KVA_f, KG_skip, KG_tt, KG_ff, KG_tf, KG_ft, KB_true, KB_false, KNOD_val, KNOD_new, KNOD_ite, n_mv, n_pick, n_bin, n_eqB, n_eqN, n_eqS, n_un, n_conv, n_fadd, n_faddV, n_fld1, n_fldN, n_idx, n_idxA, n_idxV, n_idxAV, n_ext, n_lenS, n_lenS0, n_lenV, n_lenT, n_lenA, n_min, n_max, n_build, n_mkfn, n_slc, n_slc0, n_slcV, n_slcA, n_load1, n_loadN, n_load1V, n_loadNV, n_alloc, n_box, n_bsl, n_mksl, n_nilcP, n_nilcV, n_nilcI, n_nilcF, x_store, x_clear0, x_clear, b_add, b_sub, b_mul, b_eql, b_neq, b_lss, b_leq, b_gtr, b_geq, b_and16, unV, ntouch, gather, hide, unhide, evalOpd, applyOuts, int_bne, int_beq, ite_bool, ite_int, one_bool, cells_bool, one_int, cells_int, one_str, cells_str, one_nilp, cells_nilp, one_ptr, cells_ptr, one_nils, cells_nils, one_sl, cells_sl, one_nilf, cells_nilf, one_fn, cells_fn, one_nili, cells_nili, one_mp, cells_mp, one_nilm, cells_nilm, one_iface, cells_iface, one_vs, cells_vs, one_vp, cells_vp, cells_agg, Nat.testBit, setAt_1, setAt_2, closeds_nil, closeds_cons, closed_bool, closed_int, closed_str, closed_nilp, closed_nils, closed_nilm, closed_nilf, closed_nili, closed_agg, closed_tup, closed_vs, closed_vp, closed_iface, closed_fn, closeds_cI, closeds_cE, viewA_closed, viewR_closed, AV.scal, AV.scal0, fillA, repA, part_bool, part_int, part_str, part_nilp, part_ptr, part_nils, part_sl, part_nilm, part_mp, part_nilf, part_fn, part_nili, part_iface, part_agg, part_vs, part_vp, viewA_sl1, vaSl_cells, wrap_0, wrap_1, wrap_2, wrap_m1, set_last, get_last, er45_0, er45_1, er45_2, er45_3, er45_4, er45_5, er45_6, er45_7, er45_8, hone, hcl, cR, m1, m2, foldV, q1, hdef, hnil, resK, resVs, resV, pack, viewG0]
      · have q2 : n ≤ hi := by omega
        simp [↓getD_z, ↓getD_s, -List.getD_eq_getElem?_getD, -Int.ofNat_toNat, -getElem?_pos, gz, ↓hid_k, ↓hid_o, ↓hid_q, ↓hid_v, ↓PO_nil, ↓PO_none, ↓PO_grd, ↓PD_nil, ↓PD_none, ↓PD_grd, ↓PDO_N, ↓PDO_X, ↓PDO_call, ↓PDO_calli, ↓PDO_callv, PDX_free, PDX_eq, ↓PStep_N, ↓PStep_X, ↓PStep_call, ↓PStep_calli, PStep_callv, ↓PC_skip, ↓PC_lab, ↓PC_ret, ↓PC_exit, ↓PC_reg, ↓PC_draw, ↓PC_seq, ↓PC_block, ↓PC_loop, ↓PC_scope, ↓PC_cond, ↓thenC_norm, ↓thenC_ret, ↓thenC_exit, ↓blockC_norm, ↓blockC_ret, ↓blockC_exit, ↓loopC_norm, ↓loopC_ret, ↓loopC_exit, ↓endR_ret, ↓endR_norm, resK_none, resK_t, resK_tt, KNO_val, KNO_new, KNO_ite, KNO_map, KXO_some, KXO_ite, KVA_t, KVA_f, KG_skip, KG_tt, KG_ff, KG_tf, KG_ft, KB_true, KB_false, KNOD_val, KNOD_new, KNOD_ite, n_mv, n_pick, n_bin, n_eqB, n_eqN, n_eqS, n_un, n_conv, n_fadd, n_faddV, n_fld1, n_fldN, n_idx, n_idxA, n_idxV, n_idxAV, n_ext, n_lenS, n_lenS0, n_lenV, n_lenT, n_lenA, n_min, n_max, n_build, n_mkfn, n_slc, n_slc0, n_slcV, n_slcA, n_load1, n_loadN, n_load1V, n_loadNV, n_alloc, n_box, n_bsl, n_mksl, n_nilcP, n_nilcV, n_nilcI, n_nilcF, x_store, x_clear0, x_clear, b_add, b_sub, b_mul, b_eql, b_neq, b_lss, b_leq, b_gtr, b_geq, b_and16, unV, ntouch, gather, hide, unhide, evalOpd, applyOuts, int_bne, int_beq, ite_bool, ite_int, one_bool, cells_bool, one_int, cells_int, one_str, cells_str, one_nilp, cells_nilp, one_ptr, cells_ptr, one_nils, cells_nils, one_sl, cells_sl, one_nilf, cells_nilf, one_fn, cells_fn, one_nili, cells_nili, one_mp, cells_mp, one_nilm, cells_nilm, one_iface, cells_iface, one_vs, cells_vs, one_vp, cells_vp, cells_agg, Nat.testBit, setAt_1, setAt_2, closeds_nil, closeds_cons, closed_bool, closed_int, closed_str, closed_nilp, closed_nils, closed_nilm, closed_nilf, closed_nili, closed_agg, closed_tup, closed_vs, closed_vp, closed_iface, closed_fn, closeds_cI, closeds_cE, viewA_closed, viewR_closed, AV.scal, AV.scal0, fillA, repA, part_bool, part_int, part_str, part_nilp, part_ptr, part_nils, part_sl, part_nilm, part_mp, part_nilf, part_fn, part_nili, part_iface, part_agg, part_vs, part_vp, viewA_sl1, vaSl_cells, wrap_0, wrap_1, wrap_2, wrap_m1, set_last, get_last, er45_0, er45_1, er45_2, er45_3, er45_4, er45_5, er45_6, er45_7, er45_8, hone, hcl, cR, m1, m2, foldV, q1, q2, hdef, hnil, resK, resVs, resV, pack, viewG0]
    · rw [if_neg hb] at hdef
      have q1 : ¬ lo < 0 := fun h => hb (.inl h)
      have q2 : ¬ n ≤ hi := fun h => hb (.inr h)
      have hw : IntKind.i64.wrap (n - 1) = n - 1 := wrap_in (by omega) (by omega)
      cases hh : hasE n es a b with
      | false =>
        rw [hh] at cH
        rw [if_pos hh] at hdef
        simp [↓getD_z, ↓getD_s, -List.getD_eq_getElem?_getD, -Int.ofNat_toNat, -getElem?_pos, gz, ↓hid_k, ↓hid_o, ↓hid_q, ↓hid_v, ↓PO_nil, ↓PO_none, ↓PO_grd, ↓PD_nil, ↓PD_none, ↓PD_grd, ↓PDO_N, ↓PDO_X, ↓PDO_call, ↓PDO_calli, ↓PDO_callv, PDX_free, PDX_eq, ↓PStep_N, ↓PStep_X, ↓PStep_call, ↓PStep_calli, PStep_callv, ↓PC_skip, ↓PC_lab, ↓PC_ret, ↓PC_exit, ↓PC_reg, ↓PC_draw, ↓PC_seq, ↓PC_block, ↓PC_loop, ↓PC_scope, ↓PC_cond, ↓thenC_norm, ↓thenC_ret, ↓thenC_exit, ↓blockC_norm, ↓blockC_ret, ↓blockC_exit, ↓loopC_norm, ↓loopC_ret, ↓loopC_exit, ↓endR_ret, ↓endR_norm, resK_none, resK_t, resK_tt, KNO_val, KNO_new, KNO_ite, KNO_map, KXO_some, KXO_ite, KVA_t, KVA_f, KG_skip, KG_tt, KG_ff, KG_tf, KG_ft, KB_true, KB_false, KNOD_val, KNOD_new, KNOD_ite, n_mv, n_pick, n_bin, n_eqB, n_eqN, n_eqS, n_un, n_conv, n_fadd, n_faddV, n_fld1, n_fldN, n_idx, n_idxA, n_idxV, n_idxAV, n_ext, n_lenS, n_lenS0, n_lenV, n_lenT, n_lenA, n_min, n_max, n_build, n_mkfn, n_slc, n_slc0, n_slcV, n_slcA, n_load1, n_loadN, n_load1V, n_loadNV, n_alloc, n_box, n_bsl, n_mksl, n_nilcP, n_nilcV, n_nilcI, n_nilcF, x_store, x_clear0, x_clear, b_add, b_sub, b_mul, b_eql, b_neq, b_lss, b_leq, b_gtr, b_geq, b_and16, unV, ntouch, gather, hide, unhide, evalOpd, applyOuts, int_bne, int_beq, ite_bool, ite_int, one_bool, cells_bool, one_int, cells_int, one_str, cells_str, one_nilp, cells_nilp, one_ptr, cells_ptr, one_nils, cells_nils, one_sl, cells_sl, one_nilf, cells_nilf, one_fn, cells_fn, one_nili, cells_nili, one_mp, cells_mp, one_nilm, cells_nilm, one_iface, cells_iface, one_vs, cells_vs, one_vp, cells_vp, cells_agg, Nat.testBit, setAt_1, setAt_2, closeds_nil, closeds_cons, closed_bool, closed_int, closed_str, closed_nilp, closed_nils, closed_nilm, closed_nilf, closed_nili, closed_agg, closed_tup, closed_vs, closed_vp, closed_iface, closed_fn, closeds_cI, closeds_cE, viewA_closed, viewR_closed, AV.scal, AV.scal0, fillA, repA, part_bool, part_int, part_str, part_nilp, part_ptr, part_nils, part_sl, part_nilm, part_mp, part_nilf, part_fn, part_nili, part_iface, part_agg, part_vs, part_vp, viewA_sl1, vaSl_cells, wrap_0, wrap_1, wrap_2, wrap_m1, set_last, get_last, er45_0, er45_1, er45_2, er45_3, er45_4, er45_5, er45_6, er45_7, er45_8, hone, hcl, cR, cH, m1, m2, foldV, q1, q2, hdef, hnil, resK, resVs, resV, pack, viewG0]
      | true =>
        rw [hh] at cH
        rw [if_neg (by simp [hh])] at hdef
        simp [↓getD_z, ↓getD_s, -List.getD_eq_getElem?_getD, -Int.ofNat_toNat, -getElem?_pos, gz, ↓hid_k, ↓hid_o, ↓hid_q, ↓hid_v, ↓PO_nil, ↓PO_none, ↓PO_grd, ↓PD_nil, ↓PD_none, ↓PD_grd, ↓PDO_N, ↓PDO_X, ↓PDO_call, ↓PDO_calli, ↓PDO_callv, PDX_free, PDX_eq, ↓PStep_N, ↓PStep_X, ↓PStep_call, ↓PStep_calli, PStep_callv, ↓PC_skip, ↓PC_lab, ↓PC_ret, ↓PC_exit, ↓PC_reg, ↓PC_draw, ↓PC_seq, ↓PC_block, ↓PC_loop, ↓PC_scope, ↓PC_cond, ↓thenC_norm, ↓thenC_ret, ↓thenC_exit, ↓blockC_norm, ↓blockC_ret, ↓blockC_exit, ↓loopC_norm, ↓loopC_ret, ↓loopC_exit, ↓endR_ret, ↓endR_norm, resK_none, resK_t, resK_tt, KNO_val, KNO_new, KNO_ite, KNO_map, KXO_some, KXO_ite, KVA_t, KVA_f, KG_skip, KG_tt, KG_ff, KG_tf, KG_ft, KB_true, KB_false, KNOD_val, KNOD_new, KNOD_ite, n_mv, n_pick, n_bin, n_eqB, n_eqN, n_eqS, n_un, n_conv, n_fadd, n_faddV, n_fld1, n_fldN, n_idx, n_idxA, n_idxV, n_idxAV, n_ext, n_lenS, n_lenS0, n_lenV, n_lenT, n_lenA, n_min, n_max, n_build, n_mkfn, n_slc, n_slc0, n_slcV, n_slcA, n_load1, n_loadN, n_load1V, n_loadNV, n_alloc, n_box, n_bsl, n_mksl, n_nilcP, n_nilcV, n_nilcI, n_nilcF, x_store, x_clear0, x_clear, b_add, b_sub, b_mul, b_eql, b_neq, b_lss, b_leq, b_gtr, b_geq, b_and16, unV, ntouch, gather, hide, unhide, evalOpd, applyOuts, int_bne, int_beq, ite_bool, ite_int, one_bool, cells_bool, one_int, cells_int, one_str, cells_str, one_nilp, cells_nilp, one_ptr, cells_ptr, one_nils, cells_nils, one_sl, cells_sl, one_nilf, cells_nilf, one_fn, cells_fn, one_nili, cells_nili, one_mp, cells_mp, one_nilm, cells_nilm, one_iface, cells_iface, one_vs, cells_vs, one_vp, cells_vp, cells_agg, Nat.testBit, setAt_1, setAt_2, closeds_nil, closeds_cons, closed_bool, closed_int, closed_str, closed_nilp, closed_nils, closed_nilm, closed_nilf, closed_nili, closed_agg, closed_tup, closed_vs, closed_vp, closed_iface, closed_fn, closeds_cI, closeds_cE, viewA_closed, viewR_closed, AV.scal, AV.scal0, fillA, repA, part_bool, part_int, part_str, part_nilp, part_ptr, part_nils, part_sl, part_nilm, part_mp, part_nilf, part_fn, part_nili, part_iface, part_agg, part_vs, part_vp, viewA_sl1, vaSl_cells, wrap_0, wrap_1, wrap_2, wrap_m1, set_last, get_last, er45_0, er45_1, er45_2, er45_3, er45_4, er45_5, er45_6, er45_7, er45_8, hone, hcl, cR, cH, m1, m2, foldV, q1, q2, hw]
        refine w_renamed2 h2 hN (conI lo hi) (φ 58) (.ptr 3 0 0) (.ptr 2 0 0) (n - 1) n v es hv hn.2.2 _ rfl rfl (fun e he y hy H' K' hsame hK => ?_) (fun H' hsame hle => ?_)
        · have he' := hrb e he
          refine w_Con1 h1 y lo hi (by omega) H' K' ?_ ?_ hK
          · rw [hsame 3 (by simp)]; rfl
          · rw [hsame 2 (by simp)]; rfl
        · have b1 : H'[1]? = some (.cells 0 false [.int .i64 0, .nils]) := by rw [hsame 1 (by simp)]; rfl
          have hset : ∀ z, (H'.set 1 z)[1]? = some z := fun z => List.getElem?_set_self (lt_of_get b1)
          simp only [hid_k, nR]
          rw [hdef]
          generalize normalE (n - 1) (mapE (conI lo hi) es) = y at *
          have iy := isE_r y.2.1
          simp [↓getD_z, ↓getD_s, -List.getD_eq_getElem?_getD, -Int.ofNat_toNat, -getElem?_pos, gz, ↓hid_k, ↓hid_o, ↓hid_q, ↓hid_v, ↓PO_nil, ↓PO_none, ↓PO_grd, ↓PD_nil, ↓PD_none, ↓PD_grd, ↓PDO_N, ↓PDO_X, ↓PDO_call, ↓PDO_calli, ↓PDO_callv, PDX_free, PDX_eq, ↓PStep_N, ↓PStep_X, ↓PStep_call, ↓PStep_calli, PStep_callv, ↓PC_skip, ↓PC_lab, ↓PC_ret, ↓PC_exit, ↓PC_reg, ↓PC_draw, ↓PC_seq, ↓PC_block, ↓PC_loop, ↓PC_scope, ↓PC_cond, ↓thenC_norm, ↓thenC_ret, ↓thenC_exit, ↓blockC_norm, ↓blockC_ret, ↓blockC_exit, ↓loopC_norm, ↓loopC_ret, ↓loopC_exit, ↓endR_ret, ↓endR_norm, resK_none, resK_t, resK_tt, KNO_val, KNO_new, KNO_ite, KNO_map, KXO_some, KXO_ite, KVA_t, KVA_f, KG_skip, KG_tt, KG_ff, KG_tf, KG_ft, KB_true, KB_false, KNOD_val, KNOD_new, KNOD_ite, n_mv, n_pick, n_bin, n_eqB, n_eqN, n_eqS, n_un, n_conv, n_fadd, n_faddV, n_fld1, n_fldN, n_idx, n_idxA, n_idxV, n_idxAV, n_ext, n_lenS, n_lenS0, n_lenV, n_lenT, n_lenA, n_min, n_max, n_build, n_mkfn, n_slc, n_slc0, n_slcV, n_slcA, n_load1, n_loadN, n_load1V, n_loadNV, n_alloc, n_box, n_bsl, n_mksl, n_nilcP, n_nilcV, n_nilcI, n_nilcF, x_store, x_clear0, x_clear, b_add, b_sub, b_mul, b_eql, b_neq, b_lss, b_leq, b_gtr, b_geq, b_and16, unV, ntouch, gather, hide, unhide, evalOpd, applyOuts, int_bne, int_beq, ite_bool, ite_int, one_bool, cells_bool, one_int, cells_int, one_str, cells_str, one_nilp, cells_nilp, one_ptr, cells_ptr, one_nils, cells_nils, one_sl, cells_sl, one_nilf, cells_nilf, one_fn, cells_fn, one_nili, cells_nili, one_mp, cells_mp, one_nilm, cells_nilm, one_iface, cells_iface, one_vs, cells_vs, one_vp, cells_vp, cells_agg, Nat.testBit, setAt_1, setAt_2, closeds_nil, closeds_cons, closed_bool, closed_int, closed_str, closed_nilp, closed_nils, closed_nilm, closed_nilf, closed_nili, closed_agg, closed_tup, closed_vs, closed_vp, closed_iface, closed_fn, closeds_cI, closeds_cE, viewA_closed, viewR_closed, AV.scal, AV.scal0, fillA, repA, part_bool, part_int, part_str, part_nilp, part_ptr, part_nils, part_sl, part_nilm, part_mp, part_nilf, part_fn, part_nili, part_iface, part_agg, part_vs, part_vp, viewA_sl1, vaSl_cells, wrap_0, wrap_1, wrap_2, wrap_m1, set_last, get_last, er45_0, er45_1, er45_2, er45_3, er45_4, er45_5, er45_6, er45_7, er45_8, b1, hset, iy.one, iy.cells, iy.closed, resK, resVs, resV, pack]
  · simp only [Bool.not_eq_true] at hR
    rw [if_pos hR] at hdef
    simp [hR] at cR
    simp [↓getD_z, ↓getD_s, -List.getD_eq_getElem?_getD, -Int.ofNat_toNat, -getElem?_pos, gz, ↓hid_k, ↓hid_o, ↓hid_q, ↓hid_v, ↓PO_nil, ↓PO_none, ↓PO_grd, ↓PD_nil, ↓PD_none, ↓PD_grd, ↓PDO_N, ↓PDO_X, ↓PDO_call, ↓PDO_calli, ↓PDO_callv, PDX_free, PDX_eq, ↓PStep_N, ↓PStep_X, ↓PStep_call, ↓PStep_calli, PStep_callv, ↓PC_skip, ↓PC_lab, ↓PC_ret, ↓PC_exit, ↓PC_reg, ↓PC_draw, ↓PC_seq, ↓PC_block, ↓PC_loop, ↓PC_scope, ↓PC_cond, ↓thenC_norm, ↓thenC_ret, ↓thenC_exit, ↓blockC_norm, ↓blockC_ret, ↓blockC_exit, ↓loopC_norm, ↓loopC_ret, ↓loopC_exit, ↓endR_ret, ↓endR_norm, resK_none, resK_t, resK_tt, KNO_val, KNO_new, KNO_ite, KNO_map, KXO_some, KXO_ite, KVA_t, KVA_f, KG_skip, KG_tt, KG_ff, KG_tf, KG_ft, KB_true, KB_false, KNOD_val, KNOD_new, KNOD_ite, n_mv, n_pick, n_bin, n_eqB, n_eqN, n_eqS, n_un, n_conv, n_fadd, n_faddV, n_fld1, n_fldN, n_idx, n_idxA, n_idxV, n_idxAV, n_ext, n_lenS, n_lenS0, n_lenV, n_lenT, n_lenA, n_min, n_max, n_build, n_mkfn, n_slc, n_slc0, n_slcV, n_slcA, n_load1, n_loadN, n_load1V, n_loadNV, n_alloc, n_box, n_bsl, n_mksl, n_nilcP, n_nilcV, n_nilcI, n_nilcF, x_store, x_clear0, x_clear, b_add, b_sub, b_mul, b_eql, b_neq, b_lss, b_leq, b_gtr, b_geq, b_and16, unV, ntouch, gather, hide, unhide, evalOpd, applyOuts, int_bne, int_beq, ite_bool, ite_int, one_bool, cells_bool, one_int, cells_int, one_str, cells_str, one_nilp, cells_nilp, one_ptr, cells_ptr, one_nils, cells_nils, one_sl, cells_sl, one_nilf, cells_nilf, one_fn, cells_fn, one_nili, cells_nili, one_mp, cells_mp, one_nilm, cells_nilm, one_iface, cells_iface, one_vs, cells_vs, one_vp, cells_vp, cells_agg, Nat.testBit, setAt_1, setAt_2, closeds_nil, closeds_cons, closed_bool, closed_int, closed_str, closed_nilp, closed_nils, closed_nilm, closed_nilf, closed_nili, closed_agg, closed_tup, closed_vs, closed_vp, closed_iface, closed_fn, closeds_cI, closeds_cE, viewA_closed, viewR_closed, AV.scal, AV.scal0, fillA, repA, part_bool, part_int, part_str, part_nilp, part_ptr, part_nils, part_sl, part_nilm, part_mp, part_nilf, part_fn, part_nili, part_iface, part_agg, part_vs, part_vp, viewA_sl1, vaSl_cells, wrap_0, wrap_1, wrap_2, wrap_m1, set_last, get_last, er45_0, er45_1, er45_2, er45_3, er45_4, er45_5, er45_6, er45_7, er45_8, hone, hcl, cR, hdef, hnil, resK, resVs, resV, pack, viewG0]
end Go.Ai.G
/- SubWrong. -/
namespace Go.Ai.G
open Go.Ai
set_option maxRecDepth 100000
set_option linter.unusedSimpArgs false
set_option linter.unusedVariables false
variable {A : AProg} {φ : Nat → Nat}
theorem er48_0 (φ : Nat → Nat) : r48_0 φ = [
  ⟨0, .N .box, [.n 0], none, 0⟩,
  ⟨1, .N .mv, [.c (.bool false)], none, 0⟩] := Eq.trans rfl rfl
theorem er48_1 (φ : Nat → Nat) : r48_1 φ = [
  ⟨0, .calli true (φ 38), [], none, 0⟩,
  ⟨1, .N .mv, [.l 0], none, 0⟩] := Eq.trans rfl rfl
theorem er48_2 (φ : Nat → Nat) : r48_2 φ = [
  ⟨0, .N (.bsl [.int .i64 0, .int .i64 0] 0 2 []), [], none, 0⟩,
  ⟨1, .N (.fadd 1), [.n 3], none, 0⟩,
  ⟨2, .N .load1, [.l 0], none, 0⟩,
  ⟨3, .N (.fadd 1), [.n 3], none, 0⟩,
  ⟨4, .N .load1, [.l 0], none, 0⟩,
  ⟨5, .N .lenS, [.l 0], none, 0⟩,
  ⟨6, .N .min, [.l 0, .c (.int .i64 300)], none, 0⟩,
  ⟨7, .N (.slc 2 false true false), [.l 4, .l 0], none, 0⟩,
  ⟨8, .X (.app 2 16), [.l 7, .l 0], none, 0⟩,
  ⟨9, .N (.fadd 1), [.n 3], none, 0⟩,
  ⟨10, .X (.store 1), [.l 0, .l 1], none, 0⟩] := Eq.trans rfl rfl
theorem er48_3 (φ : Nat → Nat) : r48_3 φ = [
  ⟨0, .N (.loadN 2), [.n 3], none, 0⟩,
  ⟨1, .calli true (φ 6), [.l 0], none, 0⟩,
  ⟨2, .N .mv, [.l 0], none, 0⟩] := Eq.trans rfl rfl
theorem er48_4 (φ : Nat → Nat) : r48_4 φ = [
  ⟨0, .N (.loadN 2), [.n 3], none, 0⟩,
  ⟨1, .N .mv, [.n 1], none, 0⟩,
  ⟨2, .N .mv, [.n 2], none, 0⟩,
  ⟨3, .N (.bsl [.int .i64 0] 2 1 [(0, 1), (1, 1)]), [.l 1, .l 0], none, 0⟩,
  ⟨4, .calli false (φ 40), [.l 3, .l 0], none, 0⟩,
  ⟨5, .N .mv, [.l 0], none, 0⟩,
  ⟨6, .N (.ext 0), [.l 0], none, 0⟩,
  ⟨7, .N (.ext 1), [.l 1], none, 0⟩,
  ⟨8, .N (.alloc [.int .i64 0, .nils]), [], none, 0⟩,
  ⟨9, .X (.store 2), [.l 0, .l 2], none, 0⟩,
  ⟨10, .N .mv, [.l 2], none, 0⟩] := Eq.trans rfl rfl
theorem er48_5 (φ : Nat → Nat) : r48_5 φ = [
  ⟨0, .N (.loadN 2), [.n 3], none, 0⟩,
  ⟨1, .N .mv, [.n 1], none, 0⟩,
  ⟨2, .calli false (φ 43), [.l 1, .l 0], none, 0⟩,
  ⟨3, .N .mv, [.l 0], none, 0⟩,
  ⟨4, .N (.ext 0), [.l 0], none, 0⟩,
  ⟨5, .N (.ext 1), [.l 1], none, 0⟩,
  ⟨6, .N (.alloc [.int .i64 0, .nils]), [], none, 0⟩,
  ⟨7, .X (.store 2), [.l 0, .l 2], none, 0⟩,
  ⟨8, .N .mv, [.l 2], none, 0⟩] := Eq.trans rfl rfl
theorem er48_6 (φ : Nat → Nat) : r48_6 φ = [
  ⟨0, .N (.loadN 2), [.n 3], none, 0⟩,
  ⟨1, .N .mv, [.n 1], none, 0⟩,
  ⟨2, .N .mv, [.n 2], none, 0⟩,
  ⟨3, .calli false (φ 45), [.l 2, .l 1, .l 0], none, 0⟩,
  ⟨4, .N .mv, [.l 0], none, 0⟩,
  ⟨5, .N (.ext 0), [.l 0], none, 0⟩,
  ⟨6, .N (.ext 1), [.l 1], none, 0⟩,
  ⟨7, .N (.alloc [.int .i64 0, .nils]), [], none, 0⟩,
  ⟨8, .X (.store 2), [.l 0, .l 2], none, 0⟩,
  ⟨9, .N .mv, [.l 2], none, 0⟩] := Eq.trans rfl rfl
theorem er48_7 (φ : Nat → Nat) : r48_7 φ = [
  ⟨0, .N .mv, [.n 6], none, 0⟩] := Eq.trans rfl rfl
theorem er48_8 (φ : Nat → Nat) : r48_8 φ = [
  ⟨0, .N .mv, [.n 5], none, 0⟩,
  ⟨1, .N .mv, [.l 0], none, 0⟩,
  ⟨2, .N .mv, [.n 8], some (.l 0, true), 0⟩,
  ⟨3, .N (.bin .eql), [.l 0, .c (.int .i64 0)], some (.l 1, true), 0⟩,
  ⟨4, .N .mv, [.n 1], some (.l 2, true), 0⟩,
  ⟨5, .N (.bin .geq), [.l 0, .c (.int .i64 0)], some (.l 3, true), 0⟩,
  ⟨6, .N .mv, [.l 0], some (.l 4, true), 0⟩,
  ⟨7, .N .mv, [.n 2], some (.l 0, true), 0⟩,
  ⟨8, .N (.bin .geq), [.l 0, .c (.int .i64 0)], some (.l 1, true), 0⟩,
  ⟨9, .N .pick, [.l 2, .l 0, .c (.bool false)], some (.l 7, true), 0⟩,
  ⟨10, .N .mv, [.l 0], some (.l 8, true), 0⟩,
  ⟨11, .N .mv, [.n 1], some (.l 0, true), 0⟩,
  ⟨12, .N (.fadd 0), [.n 3], some (.l 1, true), 0⟩,
  ⟨13, .N .load1, [.l 0], some (.l 2, true), 0⟩,
  ⟨14, .N (.bin .lss), [.l 2, .l 0], some (.l 3, true), 0⟩,
  ⟨15, .N .pick, [.l 4, .l 0, .c (.bool false)], some (.l 13, true), 0⟩,
  ⟨16, .N .mv, [.l 0], some (.l 14, true), 0⟩,
  ⟨17, .N .mv, [.n 2], some (.l 0, true), 0⟩,
  ⟨18, .N (.fadd 0), [.n 3], some (.l 1, true), 0⟩,
  ⟨19, .N .load1, [.l 0], some (.l 2, true), 0⟩,
  ⟨20, .N (.bin .lss), [.l 2, .l 0], some (.l 3, true), 0⟩,
  ⟨21, .N .pick, [.l 4, .l 0, .c (.bool false)], some (.l 19, true), 0⟩,
  ⟨22, .N .mv, [.l 0], some (.l 20, true), 0⟩,
  ⟨23, .N .mv, [.n 1], some (.l 0, true), 0⟩,
  ⟨24, .N .mv, [.n 2], some (.l 1, true), 0⟩,
  ⟨25, .N (.bin .neq), [.l 1, .l 0], some (.l 2, true), 0⟩,
  ⟨26, .N .pick, [.l 3, .l 0, .c (.bool false)], some (.l 24, true), 0⟩,
  ⟨27, .N (.eqB false), [.l 23, .l 0], some (.l 25, true), 0⟩,
  ⟨28, .N .pick, [.l 26, .l 0, .c (.bool false)], none, 0⟩,
  ⟨29, .N .mv, [.l 0], none, 0⟩,
  ⟨30, .N .mv, [.n 10], some (.l 0, true), 0⟩,
  ⟨31, .N (.bin .eql), [.l 0, .c (.int .i64 0)], some (.l 1, true), 0⟩,
  ⟨32, .N .mv, [.n 1], some (.l 2, true), 0⟩,
  ⟨33, .N (.bin .geq), [.l 0, .c (.int .i64 0)], some (.l 3, true), 0⟩,
  ⟨34, .N .mv, [.l 0], some (.l 4, true), 0⟩,
  ⟨35, .N .mv, [.n 1], some (.l 0, true), 0⟩,
  ⟨36, .N (.fadd 0), [.n 3], some (.l 1, true), 0⟩,
  ⟨37, .N .load1, [.l 0], some (.l 2, true), 0⟩,
  ⟨38, .N (.bin .lss), [.l 2, .l 0], some (.l 3, true), 0⟩,
  ⟨39, .N .pick, [.l 4, .l 0, .c (.bool false)], some (.l 9, true), 0⟩,
  ⟨40, .N (.eqB false), [.l 8, .l 0], some (.l 10, true), 0⟩,
  ⟨41, .N .pick, [.l 11, .l 0, .c (.bool false)], none, 0⟩,
  ⟨42, .N .mv, [.l 0], none, 0⟩,
  ⟨43, .N .mv, [.n 12], some (.l 0, true), 0⟩,
  ⟨44, .N (.bin .eql), [.l 0, .c (.int .i64 0)], some (.l 1, true), 0⟩,
  ⟨45, .N (.loadN 2), [.n 3], some (.l 2, true), 0⟩,
  ⟨46, .N .mv, [.n 1], some (.l 3, true), 0⟩,
  ⟨47, .N .mv, [.n 2], some (.l 4, true), 0⟩,
  ⟨48, .calli true (φ 8), [.l 2, .l 1, .l 0], some (.l 5, true), 0⟩,
  ⟨49, .N (.eqB false), [.l 4, .l 0], some (.l 6, true), 0⟩,
  ⟨50, .N .pick, [.l 7, .l 0, .c (.bool false)], none, 0⟩,
  ⟨51, .N .mv, [.l 0], none, 0⟩] := Eq.trans rfl rfl
theorem er48_9 (φ : Nat → Nat) : r48_9 φ = [
  ⟨0, .N .mv, [.n 5], none, 0⟩,
  ⟨1, .N .mv, [.l 0], none, 0⟩,
  ⟨2, .N .mv, [.n 8], some (.l 0, true), 0⟩,
  ⟨3, .N (.bin .eql), [.l 0, .c (.int .i64 1)], some (.l 1, true), 0⟩,
  ⟨4, .N .pick, [.l 2, .l 0, .c (.bool false)], none, 0⟩,
  ⟨5, .N .mv, [.l 0], none, 0⟩,
  ⟨6, .N .mv, [.n 10], some (.l 0, true), 0⟩,
  ⟨7, .N (.bin .eql), [.l 0, .c (.int .i64 1)], some (.l 1, true), 0⟩,
  ⟨8, .N .pick, [.l 2, .l 0, .c (.bool false)], none, 0⟩,
  ⟨9, .N .mv, [.l 0], none, 0⟩,
  ⟨10, .N .mv, [.n 12], some (.l 0, true), 0⟩,
  ⟨11, .N (.bin .eql), [.l 0, .c (.int .i64 1)], some (.l 1, true), 0⟩,
  ⟨12, .N .pick, [.l 2, .l 0, .c (.bool false)], none, 0⟩,
  ⟨13, .N .mv, [.l 0], none, 0⟩,
  ⟨14, .N (.fadd 0), [.n 7], some (.l 0, true), 0⟩,
  ⟨15, .N .load1, [.l 0], some (.l 1, true), 0⟩,
  ⟨16, .N (.fadd 0), [.n 9], some (.l 2, true), 0⟩,
  ⟨17, .N .load1, [.l 0], some (.l 3, true), 0⟩,
  ⟨18, .N (.bin .add), [.l 2, .l 0], some (.l 4, true), 0⟩,
  ⟨19, .N (.fadd 0), [.n 11], some (.l 5, true), 0⟩,
  ⟨20, .N .load1, [.l 0], some (.l 6, true), 0⟩,
  ⟨21, .N (.bin .add), [.l 2, .l 0], some (.l 7, true), 0⟩,
  ⟨22, .N (.fadd 1), [.n 7], some (.l 8, true), 0⟩,
  ⟨23, .N .load1, [.l 0], some (.l 9, true), 0⟩,
  ⟨24, .N .lenS, [.l 0], some (.l 10, true), 0⟩,
  ⟨25, .N (.bin .add), [.l 3, .l 0], some (.l 11, true), 0⟩,
  ⟨26, .N (.fadd 1), [.n 9], some (.l 12, true), 0⟩,
  ⟨27, .N .load1, [.l 0], some (.l 13, true), 0⟩,
  ⟨28, .N .lenS, [.l 0], some (.l 14, true), 0⟩,
  ⟨29, .N (.bin .add), [.l 3, .l 0], some (.l 15, true), 0⟩,
  ⟨30, .N (.fadd 1), [.n 11], some (.l 16, true), 0⟩,
  ⟨31, .N .load1, [.l 0], some (.l 17, true), 0⟩,
  ⟨32, .N .lenS, [.l 0], some (.l 18, true), 0⟩,
  ⟨33, .N (.bin .add), [.l 3, .l 0], some (.l 19, true), 0⟩,
  ⟨34, .N (.bin .eql), [.l 0, .c (.int .i64 0)], some (.l 20, true), 0⟩,
  ⟨35, .N .pick, [.l 21, .l 0, .c (.bool false)], none, 0⟩,
  ⟨36, .N .mv, [.l 0], none, 0⟩] := Eq.trans rfl rfl
theorem frzH_app (H : Heap) : ∀ (l1 l2 : List Nat), frzH (l1 ++ l2) H = frzH l2 (frzH l1 H) := by
  intro l1
  induction l1 generalizing H with
  | nil => intro l2; rfl
  | cons a l ih => intro l2; simp only [List.cons_append, frzH]; exact ih _ l2
theorem frz_loc {H H' : Heap} {o : AV} {b : Nat} (hl : H.length = H'.length) (h : H[b]? = H'[b]?) (hb : blkOf o = some b) : (frzOf H o)[b]? = (frzOf H' o)[b]? := by
  unfold frzOf
  rw [hb]
  simp only [frzH]
  rw [← h]
  cases hx : H[b]? with
  | none => simp only; rw [← h, hx]
  | some x =>
    have hlt := lt_of_get hx
    cases x with
    | cells gg ro c =>
      cases ro with
      | true => simp only; rw [← h, hx]
      | false => simp only; rw [List.getElem?_set_self hlt, List.getElem?_set_self (by omega)]
    | _ => simp only; rw [← h, hx]
theorem frz_comm (H : Heap) {o s : AV} (hd : ∀ b, blkOf o = some b → blkOf s ≠ some b) : frzOf (frzOf H o) s = frzOf (frzOf H s) o := by
  apply List.ext_getElem?
  intro i
  by_cases h1 : blkOf o = some i
  · have h2 := hd i h1
    rw [frzOf_get _ _ h2]
    exact frz_loc (by rw [frzOf_len]) (frzOf_get H s h2).symm h1
  · rw [frzOf_get (frzOf H s) o h1]
    by_cases h2 : blkOf s = some i
    · exact (frz_loc (by rw [frzOf_len]) (frzOf_get H o h1).symm h2).symm
    · rw [frzOf_get _ _ h2, frzOf_get _ _ h2, frzOf_get _ _ h1]
theorem Vw.two {H : Heap} {nl nl2 : Bool} {o s : AV} {n m : Nat} {c d : List AV} (h : Vw nl H o 2 n c) (hc : AV.closeds c = true) (hs : Vw nl2 H s 1 m d) (hdc : AV.closeds d = true) (hd : ∀ b, blkOf o = some b → blkOf s ≠ some b) (k : Int) :
    viewA H [.agg [.int .i64 k, o], s] = some ([.agg [.int .i64 k, rv nl n 2 c], rv nl2 m 1 d], frzOf (frzOf H o) s) := by
  rw [viewA_def]
  have e1 : reachL H fuelV [.agg [.int .i64 k, o], s] = (blkOf o).toList ++ (blkOf s).toList := by
    rw [show fuelV = 11 + 1 from rfl, reachL_cons, reachL_cons, reachL_nil, List.append_nil, show (11 : Nat) = 10 + 1 from rfl, reachV_agg, show (10 : Nat) = 9 + 1 from rfl, reachL_cons, reachL_cons, reachL_nil, List.append_nil, reachV_closed _ (by rfl), List.nil_append, show (9 : Nat) = 8 + 1 from rfl, h.reach hc, show (8 + 1 + 1 + 1 : Nat) = 10 + 1 from rfl, hs.reach hdc]
  have e2 : frzH ((blkOf o).toList ++ (blkOf s).toList) H = frzOf (frzOf H o) s := by rw [frzH_app, frzH_toList, frzH_toList]
  rw [e1, e2]
  have ho2 : Vw nl (frzOf H s) o 2 n c := h.keep fun b hb => frzOf_get H s (hd b hb)
  have hs2 : Vw nl2 (frzOf H o) s 1 m d := hs.keep fun b hb => frzOf_get H o (fun h' => hd b h' hb)
  have v1 : ∀ j, viewV (frzOf (frzOf H o) s) (j + 2) o = some (rv nl n 2 c) := fun j => by rw [frz_comm H hd]; exact ho2.seen hc j
  have v2 : ∀ j, viewV (frzOf (frzOf H o) s) (j + 2) s = some (rv nl2 m 1 d) := fun j => hs2.seen hdc j
  have w1 : viewV (frzOf (frzOf H o) s) (9 + 2) (.agg [.int .i64 k, o]) = some (.agg [.int .i64 k, rv nl n 2 c]) := by
    rw [viewV_agg, show (9 + 1 : Nat) = 8 + 2 from rfl, viewL_cons, viewV_closed _ (by rfl), viewL_cons, show (8 + 1 : Nat) = 7 + 2 from rfl, v1 7, viewL_closed _ (show AV.closeds [] = true from rfl)]
    rfl
  rw [show fuelV = 10 + 2 from rfl, viewL_cons, show (10 + 1 : Nat) = 9 + 2 from rfl, w1, viewL_cons, v2 9, viewL_closed _ (show AV.closeds [] = true from rfl)]
  rfl
structure SW (A : AProg) (φ : Nat → Nat) : Prop where
  l : SL A φ
  con : ∀ n a b v es, IsE v es → PVal A (φ 45) [gV n v, .int .i64 a, .int .i64 b] (gR (contractE n es a b))
  rright : RightC A (φ 6)
  rhas : ∀ n a b v es, IsE v es → PVal A (φ 8) [gV n v, .int .i64 a, .int .i64 b] (.bool (hasE n es a b))
theorem normal_err {f : Int → Int} {n m : Int} {es : List Ed} (hR : rightE n es = true) (hm : 0 ≤ m ∧ m ≤ 1000) (hlt : ∀ x, 0 ≤ x → x < n → f x < m) : (normalE m (mapE f es)).2.2 = 0 := by
  have hn := right_len hR
  have he := right_ends hR
  have hok : (mapE f es).all (okEnds m) = true := by
    rw [List.all_eq_true]
    intro y hy
    obtain ⟨⟨e, h1, rfl⟩, h2, h3⟩ := (mapE_mem _ _ _).1 hy
    have h0 := he e h1
    have q1 := hlt e.1 (by omega) (by omega)
    have q2 := hlt e.2 (by omega) (by omega)
    simp only at h2 h3
    rw [okEnds, decide_eq_true (by simp only; omega), decide_eq_true (by simp only; omega)]; rfl
  have h1 := setE_le (mapE f es)
  have h2 := mapE_len f es
  rw [normalE_ok hm.1 hm.2 hok (by omega)]
theorem ind_err {n : Int} {es : List Ed} (hR : rightE n es = true) (a b : Int) : (inducedE n es [a, b]).2.2 = 0 ↔ 0 ≤ a ∧ 0 ≤ b ∧ a < n ∧ b < n ∧ ¬ a = b := by
  unfold inducedE
  rw [if_neg (by simp [hR])]
  by_cases hb : [a, b].any (badI n) = true
  · rw [if_pos hb]
    simp [badI] at hb
    constructor
    · intro h; simp at h
    · intro h; omega
  · rw [if_neg hb]
    simp [badI] at hb
    by_cases hab : a = b
    · rw [if_pos (by simp [hab])]
      constructor
      · intro h; simp at h
      · intro h; exact absurd hab h.2.2.2.2
    · rw [if_neg (by simp [hab])]
      have := normal_err (f := posI [a, b]) (m := ([a, b] : List Int).length) hR (by simp) (fun x h0 h1 => by
        by_cases hp : 0 ≤ posI [a, b] x
        · obtain ⟨_, e1, e2⟩ := posI_mem hp; omega
        · simp; omega)
      constructor
      · intro _; omega
      · intro _; exact this
theorem del_err {n : Int} {es : List Ed} (hR : rightE n es = true) (a : Int) : (deleteE n es a).2.2 = 0 ↔ 0 ≤ a ∧ a < n := by
  have hn := right_len hR
  unfold deleteE
  rw [if_neg (by simp [hR])]
  by_cases hb : badI n a = true
  · rw [if_pos hb]
    simp [badI] at hb
    constructor
    · intro h; simp at h
    · intro h; omega
  · rw [if_neg hb]
    simp [badI] at hb
    have := normal_err (f := delI a) (m := n - 1) hR (by omega) (fun x h0 h1 => by unfold delI; split <;> (try split) <;> omega)
    exact ⟨fun _ => by omega, fun _ => this⟩
theorem con_err {n : Int} {es : List Ed} (hR : rightE n es = true) (a b : Int) : (contractE n es a b).2.2 = 0 ↔ hasE n es a b = true := by
  have hn := right_len hR
  have he := right_ends hR
  unfold contractE
  rw [if_neg (by simp [hR])]
  by_cases hh : hasE n es a b = true
  · have hm := hh
    rw [hasE_iff hR] at hm
    have hr : 0 ≤ min a b ∧ max a b < n ∧ min a b < max a b := by
      rcases hm with h | h <;> (have := he _ h; simp only at this; omega)
    rw [if_neg (by omega), if_neg (by simp [hh])]
    have := normal_err (f := conI (min a b) (max a b)) (m := n - 1) hR (by omega) (fun x h0 h1 => by unfold conI; split <;> (try split) <;> omega)
    exact ⟨fun _ => hh, fun _ => this⟩
  · constructor
    · intro h
      exfalso
      split at h
      · simp at h
      · rw [if_pos (by simpa using hh)] at h; simp at h
    · intro h; exact absurd h hh
set_option maxHeartbeats 8000000 in
theorem w_SubWrong (h : Has A (φ 48) (f48 φ)) (hS : PVal A (φ 38) [] (.bool true)) (g : SW A φ) (n : Int) (v : AV) (l : List Ed) (hv : IsE v l) (a b : Int) :
    PVal A (φ 48) [gV n v, .int .i64 a, .int .i64 b] (.bool true) := by
  have hsh := hS.eq
  have hlen := hv.len
  have hone := hv.one
  have hcl := hv.closed
  obtain ⟨v', o, H', s1, x1, x2, e0, ho⟩ := cut_own n v l hv 300 (by omega)
  have hmin := minV_i (l.length : Int) 300
  have hmm : min (l.length : Int) 300 = ((min l.length 300 : Nat) : Int) := by omega
  rw [hmm] at hmin
  have hL : (l.take 300).length ≤ 300 := by simp; omega
  generalize l.take 300 = es at *
  have hset : (H'.set 0 (.cells 0 false [.int .i64 n, o]))[0]? = some (.cells 0 false [.int .i64 n, o]) := List.getElem?_set_self (lt_of_get e0)
  have hown : OwnE false 1 (H'.set 0 (.cells 0 false [.int .i64 n, o])) o es := Own.keep x2 fun b hb hbe => List.getElem?_set_ne (by have := (Own.blk x2 hbe).1; omega)
  have hset0 : setAt [.int .i64 n, v] 1 [o] = [.int .i64 n, o] := rfl
  have hc := closeds_cE es
  have hIs : IsE (rv false es.length 2 (cellsE es)) es := is_rv (cellsE_length es) hc
  generalize hH2 : H'.set 0 (.cells 0 false [.int .i64 n, o]) = H2 at *
  have hw : Vw false H2 o 2 es.length (cellsE es) := Own.vw hown
  have hoc := hw.cells
  have hoo := hw.one
  have va1 := hw.g1 hc n
  have hbl : ∀ b, blkOf o = some b → b < H2.length := fun b hb => (Own.blk hown hb).2
  have hab0 : Own false 0 (H2 ++ [.cells 0 false [.int .i64 a, .int .i64 b]]) (.sl H2.length 0 0 2 1 2 true) 1 2 (cI [a, b]) := .inr ⟨by omega, H2.length, 0, true, rfl, Nat.zero_le _, rfl, by simp [cI]⟩
  have hdis : ∀ b, blkOf o = some b → blkOf (.sl H2.length 0 0 2 1 2 true) ≠ some b := fun b hb h => by
    have := hbl b hb; simp [blkOf] at h; omega
  have hwJ : Vw false (H2 ++ [.cells 0 false [.int .i64 a, .int .i64 b]]) o 2 es.length (cellsE es) := Own.vw (hown.more _)
  have vtwo := Vw.two hwJ hc (Own.vw hab0) (closeds_cI [a, b]) hdis n
  have hFl : (frzOf (frzOf (H2 ++ [.cells 0 false [.int .i64 a, .int .i64 b]]) o) (.sl H2.length 0 0 2 1 2 true)).length = H2.length + 1 := by rw [frzOf_len, frzOf_len]; simp
  have hbs : blkOf (.sl H2.length 0 0 2 1 2 true) ≠ some 0 := fun h => by
    simp only [blkOf] at h
    rw [if_neg (by omega)] at h
    have h' := Option.some.inj h
    have := lt_of_get hset
    omega
  have hF0 : (frzOf (frzOf (H2 ++ [.cells 0 false [.int .i64 a, .int .i64 b]]) o) (.sl H2.length 0 0 2 1 2 true))[0]? = some (.cells 0 false [.int .i64 n, o]) := by
    rw [frzOf_get _ _ hbs, frzOf_get _ _ ho]; exact get_more _ hset
  have hVF : Vw false (frzOf (frzOf (H2 ++ [.cells 0 false [.int .i64 a, .int .i64 b]]) o) (.sl H2.length 0 0 2 1 2 true)) o 2 es.length (cellsE es) ∧ frzOf (frzOf (frzOf (H2 ++ [.cells 0 false [.int .i64 a, .int .i64 b]]) o) (.sl H2.length 0 0 2 1 2 true)) o = frzOf (frzOf (H2 ++ [.cells 0 false [.int .i64 a, .int .i64 b]]) o) (.sl H2.length 0 0 2 1 2 true) := by
    rw [frz_comm _ hdis]
    have := (hwJ.keep (H' := frzOf (H2 ++ [.cells 0 false [.int .i64 a, .int .i64 b]]) (.sl H2.length 0 0 2 1 2 true)) fun b hb => frzOf_get _ _ (hdis b hb)).frz
    exact ⟨this.1, this.2.1⟩
  generalize frzOf (frzOf (H2 ++ [.cells 0 false [.int .i64 a, .int .i64 b]]) o) (.sl H2.length 0 0 2 1 2 true) = F at *
  obtain ⟨f1, f2⟩ := hVF
  have hblF : ∀ b, blkOf o = some b → b < F.length := fun b hb => by have := hbl b hb; omega
  have gA0 : ∀ J, (F ++ J)[0]? = some (.cells 0 false [.int .i64 n, o]) := fun J => get_more J hF0
  have vJ2 : ∀ (J : Heap) (x : AV), x.closed = true → viewA (F ++ J) [.agg [.int .i64 n, o], x] = some ([.agg [.int .i64 n, rv false es.length 2 (cellsE es)], x], F ++ J) := by
    intro J x hx
    have := (f1.keep (H' := F ++ J) fun b hb => List.getElem?_append_left (hblF b hb)).g2 hc n x hx
    rwa [frz_more f2 hblF J] at this
  have vJ3 : ∀ (J : Heap) (x y : AV), x.closed = true → y.closed = true → viewA (F ++ J) [.agg [.int .i64 n, o], x, y] = some ([.agg [.int .i64 n, rv false es.length 2 (cellsE es)], x, y], F ++ J) := by
    intro J x y hx hy
    have := (f1.keep (H' := F ++ J) fun b hb => List.getElem?_append_left (hblF b hb)).g3 hc n x y hx hy
    rwa [frz_more f2 hblF J] at this
  have hI2 : IsI (rv false [a, b].length 1 (cI [a, b])) [a, b] := is_rv (by simp [cI]) (closeds_cI _)
  have c1 := (g.rright n _ es hIs).eq
  have c2 := (g.l.s.ind n _ es _ [a, b] hIs hI2 (by simp)).eq
  have c3 := (g.l.del n _ es a hIs).eq
  have c4 := (g.con n a b _ es hIs).eq
  have c5 := (g.rhas n a b _ es hIs).eq
  have hrv : rv false ([a, b] : List Int).length 1 (cI [a, b]) = rv false 2 1 (cI [a, b]) := rfl
  rw [hrv] at c2
  simp only [gR] at c2 c3 c4
  generalize rv false 2 1 (cI [a, b]) = u2 at *
  refine pval_has h rfl ?_
  simp only [b48, f48]
  by_cases hR : rightE n es = true
  · have q2 := ind_err hR a b
    have q3 := del_err hR a
    have q4 := con_err hR a b
    generalize inducedE n es [a, b] = y at *
    generalize deleteE n es a = z at *
    generalize contractE n es a b = w at *
    have iy := isE_r y.2.1
    have iz := isE_r z.2.1
    have iw := isE_r w.2.1
    generalize rE y.2.1 = uy at *
    generalize rE z.2.1 = uz at *
    generalize rE w.2.1 = uw at *
    rw [hR] at c1
    generalize hasE n es a b = hh at *
    generalize rv false es.length 2 (cellsE es) = ue at *
    simp [↓getD_z, ↓getD_s, -List.getD_eq_getElem?_getD, -Int.ofNat_toNat, -getElem?_pos, gz, ↓hid_k, ↓hid_o, ↓hid_q, ↓hid_v, ↓PO_nil, ↓PO_none, ↓PO_grd, ↓PD_nil, ↓PD_none, ↓PD_grd, ↓PDO_N, ↓PDO_X, ↓PDO_call, ↓PDO_calli, ↓PDO_callv, PDX_free, PDX_eq, ↓PStep_N, ↓PStep_X, ↓PStep_call, ↓PStep_calli, PStep_callv, ↓PC_skip, ↓PC_lab, ↓PC_ret, ↓PC_exit, ↓PC_reg, ↓PC_draw, ↓PC_seq, ↓PC_block, ↓PC_loop, ↓PC_scope, ↓PC_cond, ↓thenC_norm, ↓thenC_ret, ↓thenC_exit, ↓blockC_norm, ↓blockC_ret, ↓blockC_exit, ↓loopC_norm, ↓loopC_ret, ↓loopC_exit, ↓endR_ret, ↓endR_norm, resK_none, resK_t, resK_tt, KNO_val, KNO_new, KNO_ite, KNO_map, KXO_some, KXO_ite, KVA_t, KVA_f, KG_skip, KG_tt, KG_ff, KG_tf, KG_ft, KB_true, KB_false, KNOD_val, KNOD_new, KNOD_ite, n_mv, n_pick, n_bin, n_eqB, n_eqN, n_eqS, n_un, n_conv, n_fadd, n_faddV, n_fld1, n_fldN, n_idx, n_idxA, n_idxV, n_idxAV, n_ext, n_lenS, n_lenS0, n_lenV, n_lenT, n_lenA, n_min, n_max, n_build, n_mkfn, n_slc, n_slc0, n_slcV, n_slcA, n_load1, n_loadN, n_load1V, n_loadNV, n_alloc, n_box, n_bsl, n_mksl, n_nilcP, n_nilcV, n_nilcI, n_nilcF, x_store, x_clear0, x_clear, b_add, b_sub, b_mul, b_eql, b_neq, b_lss, b_leq, b_gtr, b_geq, b_and16, unV, ntouch, gather, hide, unhide, evalOpd, applyOuts, int_bne, int_beq, ite_bool, ite_int, one_bool, cells_bool, one_int, cells_int, one_str, cells_str, one_nilp, cells_nilp, one_ptr, cells_ptr, one_nils, cells_nils, one_sl, cells_sl, one_nilf, cells_nilf, one_fn, cells_fn, one_nili, cells_nili, one_mp, cells_mp, one_nilm, cells_nilm, one_iface, cells_iface, one_vs, cells_vs, one_vp, cells_vp, cells_agg, Nat.testBit, setAt_1, setAt_2, closeds_nil, closeds_cons, closed_bool, closed_int, closed_str, closed_nilp, closed_nils, closed_nilm, closed_nilf, closed_nili, closed_agg, closed_tup, closed_vs, closed_vp, closed_iface, closed_fn, closeds_cI, closeds_cE, viewA_closed, viewR_closed, AV.scal, AV.scal0, fillA, repA, part_bool, part_int, part_str, part_nilp, part_ptr, part_nils, part_sl, part_nilm, part_mp, part_nilf, part_fn, part_nili, part_iface, part_agg, part_vs, part_vp, viewA_sl1, vaSl_cells, wrap_0, wrap_1, wrap_2, wrap_m1, set_last, get_last, er48_0, er48_1, er48_2, er48_3, er48_4, er48_5, er48_6, er48_7, er48_8, er48_9, hsh, hlen, hone, hcl, foldV, hmin, s1, x1, e0, hset0, hH2, hoc, hoo, hset, va1, vtwo, hF0, gA0, vJ2, vJ3, c1, c2, c3, c4, c5, iy.closed, iz.closed, iw.closed, iy.one, iz.one, iw.one, iy.cells, iz.cells, iw.cells, get_at, get_at0, set_at, set_at0, q2, q3, q4]
    by_cases p5 : a = b
    · subst p5
      by_cases p1 : 0 ≤ a <;> by_cases p3 : a < n <;> simp [↓getD_z, ↓getD_s, -List.getD_eq_getElem?_getD, -Int.ofNat_toNat, -getElem?_pos, gz, ↓hid_k, ↓hid_o, ↓hid_q, ↓hid_v, ↓PO_nil, ↓PO_none, ↓PO_grd, ↓PD_nil, ↓PD_none, ↓PD_grd, ↓PDO_N, ↓PDO_X, ↓PDO_call, ↓PDO_calli, ↓PDO_callv, PDX_free, PDX_eq, ↓PStep_N, ↓PStep_X, ↓PStep_call, ↓PStep_calli, PStep_callv, ↓PC_skip, ↓PC_lab, ↓PC_ret, ↓PC_exit, ↓PC_reg, ↓PC_draw, ↓PC_seq, ↓PC_block, ↓PC_loop, ↓PC_scope, ↓PC_cond, ↓thenC_norm, ↓thenC_ret, ↓thenC_exit, ↓blockC_norm, ↓blockC_ret, ↓blockC_exit, ↓loopC_norm, ↓loopC_ret, ↓loopC_exit, ↓endR_ret, ↓endR_norm, resK_none, resK_t, resK_tt, KNO_val, KNO_new, KNO_ite, KNO_map, KXO_some, KXO_ite, KVA_t, KVA_f, KG_skip, KG_tt, KG_ff, KG_tf, KG_ft, KB_true, KB_false, KNOD_val, KNOD_new, KNOD_ite, n_mv, n_pick, n_bin, n_eqB, n_eqN, n_eqS, n_un, n_conv, n_fadd, n_faddV, n_fld1, n_fldN, n_idx, n_idxA, n_idxV, n_idxAV, n_ext, n_lenS, n_lenS0, n_lenV, n_lenT, n_lenA, n_min, n_max, n_build, n_mkfn, n_slc, n_slc0, n_slcV, n_slcA, n_load1, n_loadN, n_load1V, n_loadNV, n_alloc, n_box, n_bsl, n_mksl, n_nilcP, n_nilcV, n_nilcI, n_nilcF, x_store, x_clear0, x_clear, b_add, b_sub, b_mul, b_eql, b_neq, b_lss, b_leq, b_gtr, b_geq, b_and16, unV, ntouch, gather, hide, unhide, evalOpd, applyOuts, int_bne, int_beq, ite_bool, ite_int, one_bool, cells_bool, one_int, cells_int, one_str, cells_str, one_nilp, cells_nilp, one_ptr, cells_ptr, one_nils, cells_nils, one_sl, cells_sl, one_nilf, cells_nilf, one_fn, cells_fn, one_nili, cells_nili, one_mp, cells_mp, one_nilm, cells_nilm, one_iface, cells_iface, one_vs, cells_vs, one_vp, cells_vp, cells_agg, Nat.testBit, setAt_1, setAt_2, closeds_nil, closeds_cons, closed_bool, closed_int, closed_str, closed_nilp, closed_nils, closed_nilm, closed_nilf, closed_nili, closed_agg, closed_tup, closed_vs, closed_vp, closed_iface, closed_fn, closeds_cI, closeds_cE, viewA_closed, viewR_closed, AV.scal, AV.scal0, fillA, repA, part_bool, part_int, part_str, part_nilp, part_ptr, part_nils, part_sl, part_nilm, part_mp, part_nilf, part_fn, part_nili, part_iface, part_agg, part_vs, part_vp, viewA_sl1, vaSl_cells, wrap_0, wrap_1, wrap_2, wrap_m1, set_last, get_last, er48_0, er48_1, er48_2, er48_3, er48_4, er48_5, er48_6, er48_7, er48_8, er48_9, p1, p3, gA0, va1, vJ2, vJ3, c5, q2, q3, q4, get_at, get_at0, resK, resVs, resV, pack]
    · by_cases p1 : 0 ≤ a <;> by_cases p2 : 0 ≤ b <;> by_cases p3 : a < n <;> by_cases p4 : b < n <;> simp [↓getD_z, ↓getD_s, -List.getD_eq_getElem?_getD, -Int.ofNat_toNat, -getElem?_pos, gz, ↓hid_k, ↓hid_o, ↓hid_q, ↓hid_v, ↓PO_nil, ↓PO_none, ↓PO_grd, ↓PD_nil, ↓PD_none, ↓PD_grd, ↓PDO_N, ↓PDO_X, ↓PDO_call, ↓PDO_calli, ↓PDO_callv, PDX_free, PDX_eq, ↓PStep_N, ↓PStep_X, ↓PStep_call, ↓PStep_calli, PStep_callv, ↓PC_skip, ↓PC_lab, ↓PC_ret, ↓PC_exit, ↓PC_reg, ↓PC_draw, ↓PC_seq, ↓PC_block, ↓PC_loop, ↓PC_scope, ↓PC_cond, ↓thenC_norm, ↓thenC_ret, ↓thenC_exit, ↓blockC_norm, ↓blockC_ret, ↓blockC_exit, ↓loopC_norm, ↓loopC_ret, ↓loopC_exit, ↓endR_ret, ↓endR_norm, resK_none, resK_t, resK_tt, KNO_val, KNO_new, KNO_ite, KNO_map, KXO_some, KXO_ite, KVA_t, KVA_f, KG_skip, KG_tt, KG_ff, KG_tf, KG_ft, KB_true, KB_false, KNOD_val, KNOD_new, KNOD_ite, n_mv, n_pick, n_bin, n_eqB, n_eqN, n_eqS, n_un, n_conv, n_fadd, n_faddV, n_fld1, n_fldN, n_idx, n_idxA, n_idxV, n_idxAV, n_ext, n_lenS, n_lenS0, n_lenV, n_lenT, n_lenA, n_min, n_max, n_build, n_mkfn, n_slc, n_slc0, n_slcV, n_slcA, n_load1, n_loadN, n_load1V, n_loadNV, n_alloc, n_box, n_bsl, n_mksl, n_nilcP, n_nilcV, n_nilcI, n_nilcF, x_store, x_clear0, x_clear, b_add, b_sub, b_mul, b_eql, b_neq, b_lss, b_leq, b_gtr, b_geq, b_and16, unV, ntouch, gather, hide, unhide, evalOpd, applyOuts, int_bne, int_beq, ite_bool, ite_int, one_bool, cells_bool, one_int, cells_int, one_str, cells_str, one_nilp, cells_nilp, one_ptr, cells_ptr, one_nils, cells_nils, one_sl, cells_sl, one_nilf, cells_nilf, one_fn, cells_fn, one_nili, cells_nili, one_mp, cells_mp, one_nilm, cells_nilm, one_iface, cells_iface, one_vs, cells_vs, one_vp, cells_vp, cells_agg, Nat.testBit, setAt_1, setAt_2, closeds_nil, closeds_cons, closed_bool, closed_int, closed_str, closed_nilp, closed_nils, closed_nilm, closed_nilf, closed_nili, closed_agg, closed_tup, closed_vs, closed_vp, closed_iface, closed_fn, closeds_cI, closeds_cE, viewA_closed, viewR_closed, AV.scal, AV.scal0, fillA, repA, part_bool, part_int, part_str, part_nilp, part_ptr, part_nils, part_sl, part_nilm, part_mp, part_nilf, part_fn, part_nili, part_iface, part_agg, part_vs, part_vp, viewA_sl1, vaSl_cells, wrap_0, wrap_1, wrap_2, wrap_m1, set_last, get_last, er48_0, er48_1, er48_2, er48_3, er48_4, er48_5, er48_6, er48_7, er48_8, er48_9, p1, p2, p3, p4, p5, gA0, va1, vJ2, vJ3, c5, q2, q3, q4, get_at, get_at0, resK, resVs, resV, pack]
  · simp only [Bool.not_eq_true] at hR
    have hz : rE ([] : List Ed) = AV.nils := rfl
    have i1 : inducedE n es [a, b] = (0, [], 1) := by unfold inducedE; rw [if_pos hR]
    have i2 : deleteE n es a = (0, [], 1) := by unfold deleteE; rw [if_pos hR]
    have i3 : contractE n es a b = (0, [], 1) := by unfold contractE; rw [if_pos hR]
    simp only [i1, i2, i3, hz] at c2 c3 c4
    rw [hR] at c1
    generalize rv false es.length 2 (cellsE es) = ue at *
    simp [↓getD_z, ↓getD_s, -List.getD_eq_getElem?_getD, -Int.ofNat_toNat, -getElem?_pos, gz, ↓hid_k, ↓hid_o, ↓hid_q, ↓hid_v, ↓PO_nil, ↓PO_none, ↓PO_grd, ↓PD_nil, ↓PD_none, ↓PD_grd, ↓PDO_N, ↓PDO_X, ↓PDO_call, ↓PDO_calli, ↓PDO_callv, PDX_free, PDX_eq, ↓PStep_N, ↓PStep_X, ↓PStep_call, ↓PStep_calli, PStep_callv, ↓PC_skip, ↓PC_lab, ↓PC_ret, ↓PC_exit, ↓PC_reg, ↓PC_draw, ↓PC_seq, ↓PC_block, ↓PC_loop, ↓PC_scope, ↓PC_cond, ↓thenC_norm, ↓thenC_ret, ↓thenC_exit, ↓blockC_norm, ↓blockC_ret, ↓blockC_exit, ↓loopC_norm, ↓loopC_ret, ↓loopC_exit, ↓endR_ret, ↓endR_norm, resK_none, resK_t, resK_tt, KNO_val, KNO_new, KNO_ite, KNO_map, KXO_some, KXO_ite, KVA_t, KVA_f, KG_skip, KG_tt, KG_ff, KG_tf, KG_ft, KB_true, KB_false, KNOD_val, KNOD_new, KNOD_ite, n_mv, n_pick, n_bin, n_eqB, n_eqN, n_eqS, n_un, n_conv, n_fadd, n_faddV, n_fld1, n_fldN, n_idx, n_idxA, n_idxV, n_idxAV, n_ext, n_lenS, n_lenS0, n_lenV, n_lenT, n_lenA, n_min, n_max, n_build, n_mkfn, n_slc, n_slc0, n_slcV, n_slcA, n_load1, n_loadN, n_load1V, n_loadNV, n_alloc, n_box, n_bsl, n_mksl, n_nilcP, n_nilcV, n_nilcI, n_nilcF, x_store, x_clear0, x_clear, b_add, b_sub, b_mul, b_eql, b_neq, b_lss, b_leq, b_gtr, b_geq, b_and16, unV, ntouch, gather, hide, unhide, evalOpd, applyOuts, int_bne, int_beq, ite_bool, ite_int, one_bool, cells_bool, one_int, cells_int, one_str, cells_str, one_nilp, cells_nilp, one_ptr, cells_ptr, one_nils, cells_nils, one_sl, cells_sl, one_nilf, cells_nilf, one_fn, cells_fn, one_nili, cells_nili, one_mp, cells_mp, one_nilm, cells_nilm, one_iface, cells_iface, one_vs, cells_vs, one_vp, cells_vp, cells_agg, Nat.testBit, setAt_1, setAt_2, closeds_nil, closeds_cons, closed_bool, closed_int, closed_str, closed_nilp, closed_nils, closed_nilm, closed_nilf, closed_nili, closed_agg, closed_tup, closed_vs, closed_vp, closed_iface, closed_fn, closeds_cI, closeds_cE, viewA_closed, viewR_closed, AV.scal, AV.scal0, fillA, repA, part_bool, part_int, part_str, part_nilp, part_ptr, part_nils, part_sl, part_nilm, part_mp, part_nilf, part_fn, part_nili, part_iface, part_agg, part_vs, part_vp, viewA_sl1, vaSl_cells, wrap_0, wrap_1, wrap_2, wrap_m1, set_last, get_last, er48_0, er48_1, er48_2, er48_3, er48_4, er48_5, er48_6, er48_7, er48_8, er48_9, hsh, hlen, hone, hcl, foldV, hmin, s1, x1, e0, hset0, hH2, hoc, hoo, hset, va1, vtwo, hF0, gA0, vJ2, vJ3, c1, c2, c3, c4, c5, get_at, get_at0, set_at, set_at0, resK, resVs, resV, pack]
end Go.Ai.G
