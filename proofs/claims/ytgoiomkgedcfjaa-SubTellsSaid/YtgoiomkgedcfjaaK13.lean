/- A part of what the law leans on: the abstract machine, the contracts, the rows. -/
import Derived.Test.YtgoiomkgedcfjaaK12
/- ref06.Contract, the walk. -/
namespace Go.Ai.G
open Go.Ai
set_option maxRecDepth 100000
set_option linter.unusedSimpArgs false
set_option linter.unusedVariables false
variable {A : AProg} {φ : Nat → Nat}
attribute [local simp ↓] getD_z getD_s hid_k hid_o hid_q hid_v PO_nil PO_none PO_grd PD_nil PD_none PD_grd PDO_N PDO_X PDO_call PDO_calli PDO_callv PStep_N PStep_X PStep_call PStep_calli PC_skip PC_lab
  PC_ret PC_exit PC_reg PC_draw PC_seq PC_block PC_loop PC_scope PC_cond thenC_norm thenC_ret thenC_exit blockC_norm blockC_ret blockC_exit loopC_norm loopC_ret loopC_exit endR_ret
  endR_norm
attribute [local simp] gz PDX_free PDX_eq PStep_callv resK_none resK_t resK_tt KNO_val KNO_new KNO_ite KNO_map KXO_some KXO_ite KVA_t KVA_f KG_skip KG_tt KG_ff KG_tf KG_ft KB_true KB_false KNOD_val
  KNOD_new KNOD_ite n_mv n_pick n_bin n_eqB n_eqN n_eqS n_un n_conv n_fadd n_faddV n_fld1 n_fldN n_idx n_idxA n_idxV n_idxAV n_ext n_lenS n_lenS0 n_lenV n_lenT n_lenA n_min n_max
  n_build n_mkfn n_slc n_slc0 n_slcV n_slcA n_load1 n_loadN n_load1V n_loadNV n_alloc n_box n_bsl n_mksl n_nilcP n_nilcV n_nilcI n_nilcF x_store x_clear0 x_clear b_add b_sub b_mul
  b_eql b_neq b_lss b_leq b_gtr b_geq b_and16 unV ntouch gather hide unhide evalOpd applyOuts int_bne int_beq ite_bool ite_int one_bool cells_bool one_int cells_int one_str cells_str
  one_nilp cells_nilp one_ptr cells_ptr one_nils cells_nils one_sl cells_sl one_nilf cells_nilf one_fn cells_fn one_nili cells_nili one_mp cells_mp one_nilm cells_nilm one_iface
  cells_iface one_vs cells_vs one_vp cells_vp cells_agg Nat.testBit setAt_1 setAt_2 closeds_nil closeds_cons closed_bool closed_int closed_str closed_nilp closed_nils closed_nilm
  closed_nilf closed_nili closed_agg closed_tup closed_vs closed_vp closed_iface closed_fn closeds_cI closeds_cE viewA_closed viewR_closed AV.scal AV.scal0 fillA repA part_bool
  part_int part_str part_nilp part_ptr part_nils part_sl part_nilm part_mp part_nilf part_fn part_nili part_iface part_agg part_vs part_vp viewA_sl1 vaSl_cells wrap_0 wrap_1 wrap_2
  wrap_m1 set_last get_last
theorem er46_0 (φ : Nat → Nat) : r46_0 φ = [
  ⟨0, .N .box, [.n 0], none, 0⟩,
  ⟨1, .N (.alloc [.int .i64 0, .nils]), [], none, 0⟩,
  ⟨2, .N .mv, [.c (.int .i64 0)], none, 0⟩] := Eq.trans rfl rfl
theorem er46_1 (φ : Nat → Nat) : r46_1 φ = [
  ⟨0, .N (.loadN 2), [.n 3], none, 0⟩,
  ⟨1, .calli true (φ 6), [.l 0], none, 0⟩,
  ⟨2, .N (.un .not), [.l 0], none, 0⟩] := Eq.trans rfl rfl
theorem er46_2 (φ : Nat → Nat) : r46_2 φ = [
  ⟨0, .N (.build [.int .i64 0, .nils] []), [], none, 0⟩,
  ⟨1, .X (.store 2), [.n 4, .l 0], none, 0⟩,
  ⟨2, .N .mv, [.c (.int .i64 1)], none, 0⟩] := Eq.trans rfl rfl
theorem er46_3 (φ : Nat → Nat) : r46_3 φ = [
  ⟨0, .N .mv, [.n 1], none, 0⟩,
  ⟨1, .N (.bin .lss), [.l 0, .c (.int .i64 0)], none, 0⟩,
  ⟨2, .N .mv, [.l 0], none, 0⟩,
  ⟨3, .N .mv, [.n 2], some (.l 0, false), 0⟩,
  ⟨4, .N (.bin .lss), [.l 0, .c (.int .i64 0)], some (.l 1, false), 0⟩,
  ⟨5, .N .pick, [.l 2, .c (.bool true), .l 0], none, 0⟩,
  ⟨6, .N .mv, [.l 0], none, 0⟩,
  ⟨7, .N .mv, [.n 1], some (.l 0, false), 0⟩,
  ⟨8, .N (.fadd 0), [.n 3], some (.l 1, false), 0⟩,
  ⟨9, .N .load1, [.l 0], some (.l 2, false), 0⟩,
  ⟨10, .N (.bin .geq), [.l 2, .l 0], some (.l 3, false), 0⟩,
  ⟨11, .N .pick, [.l 4, .c (.bool true), .l 0], none, 0⟩,
  ⟨12, .N .mv, [.l 0], none, 0⟩,
  ⟨13, .N .mv, [.n 2], some (.l 0, false), 0⟩,
  ⟨14, .N (.fadd 0), [.n 3], some (.l 1, false), 0⟩,
  ⟨15, .N .load1, [.l 0], some (.l 2, false), 0⟩,
  ⟨16, .N (.bin .geq), [.l 2, .l 0], some (.l 3, false), 0⟩,
  ⟨17, .N .pick, [.l 4, .c (.bool true), .l 0], none, 0⟩] := Eq.trans rfl rfl
theorem er46_4 (φ : Nat → Nat) : r46_4 φ = [
  ⟨0, .N (.build [.int .i64 0, .nils] []), [], none, 0⟩,
  ⟨1, .X (.store 2), [.n 4, .l 0], none, 0⟩,
  ⟨2, .N .mv, [.c (.int .i64 4)], none, 0⟩] := Eq.trans rfl rfl
theorem er46_5 (φ : Nat → Nat) : r46_5 φ = [
  ⟨0, .N (.loadN 2), [.n 3], none, 0⟩,
  ⟨1, .N .mv, [.n 1], none, 0⟩,
  ⟨2, .N .mv, [.n 2], none, 0⟩,
  ⟨3, .calli true (φ 8), [.l 2, .l 1, .l 0], none, 0⟩,
  ⟨4, .N (.un .not), [.l 0], none, 0⟩] := Eq.trans rfl rfl
theorem er46_6 (φ : Nat → Nat) : r46_6 φ = [
  ⟨0, .N (.build [.int .i64 0, .nils] []), [], none, 0⟩,
  ⟨1, .X (.store 2), [.n 4, .l 0], none, 0⟩,
  ⟨2, .N .mv, [.c (.int .i64 6)], none, 0⟩] := Eq.trans rfl rfl
theorem er46_7 (φ : Nat → Nat) : r46_7 φ = [
  ⟨0, .N .mv, [.n 1], none, 0⟩,
  ⟨1, .N .mv, [.n 2], none, 0⟩,
  ⟨2, .N .min, [.l 1, .l 0], none, 0⟩,
  ⟨3, .N .mv, [.l 0], none, 0⟩] := Eq.trans rfl rfl
theorem er46_8 (φ : Nat → Nat) : r46_8 φ = [
  ⟨0, .N .mv, [.n 1], none, 0⟩,
  ⟨1, .N .mv, [.n 2], none, 0⟩,
  ⟨2, .N .max, [.l 1, .l 0], none, 0⟩,
  ⟨3, .N .mv, [.l 0], none, 0⟩] := Eq.trans rfl rfl
theorem er46_9 (φ : Nat → Nat) : r46_9 φ = [
  ⟨0, .N (.bsl [.int .i64 0, .int .i64 0] 0 2 []), [], none, 0⟩,
  ⟨1, .N (.fadd 1), [.n 3], none, 0⟩,
  ⟨2, .N .load1, [.l 0], none, 0⟩,
  ⟨3, .X (.app 2 16), [.l 2, .l 0], none, 0⟩,
  ⟨4, .N .mv, [.l 0], none, 0⟩] := Eq.trans rfl rfl
theorem er46_10 (φ : Nat → Nat) : r46_10 φ = [
  ⟨0, .N (.loadN 2), [.n 3], none, 0⟩,
  ⟨1, .N .mv, [.n 7], none, 0⟩,
  ⟨2, .calli false (φ 10), [.l 1, .l 0], none, 0⟩,
  ⟨3, .N .mv, [.l 0], none, 0⟩] := Eq.trans rfl rfl
theorem er46_11 (φ : Nat → Nat) : r46_11 φ = [
  ⟨0, .N .mv, [.c (.int .i64 0)], none, 0⟩] := Eq.trans rfl rfl
theorem er46_12 (φ : Nat → Nat) : r46_12 φ = [
  ⟨0, .N .mv, [.n 10], none, 0⟩,
  ⟨1, .N .mv, [.n 9], none, 0⟩,
  ⟨2, .N .lenS, [.l 0], none, 0⟩,
  ⟨3, .N (.bin .lss), [.l 2, .l 0], none, 0⟩] := Eq.trans rfl rfl
theorem er46_13 (φ : Nat → Nat) : r46_13 φ = [
  ⟨0, .N .mv, [.n 9], none, 0⟩,
  ⟨1, .N .mv, [.n 10], none, 0⟩,
  ⟨2, .N (.idx 1), [.l 1, .l 0], none, 0⟩,
  ⟨3, .N .load1, [.l 0], none, 0⟩,
  ⟨4, .N .mv, [.n 6], none, 0⟩,
  ⟨5, .N (.bin .neq), [.l 1, .l 0], none, 0⟩] := Eq.trans rfl rfl
theorem er46_14 (φ : Nat → Nat) : r46_14 φ = [
  ⟨0, .N .mv, [.n 8], none, 0⟩,
  ⟨1, .N .mv, [.n 6], none, 0⟩,
  ⟨2, .N .mv, [.n 9], none, 0⟩,
  ⟨3, .N .mv, [.n 10], none, 0⟩,
  ⟨4, .N (.idx 1), [.l 1, .l 0], none, 0⟩,
  ⟨5, .N .load1, [.l 0], none, 0⟩,
  ⟨6, .N (.build [.int .i64 0, .int .i64 0] [(0, 1), (1, 1)]), [.l 4, .l 0], none, 0⟩,
  ⟨7, .N (.bsl [.int .i64 0, .int .i64 0] 1 2 [(0, 2)]), [.l 0], none, 0⟩,
  ⟨8, .X (.app 2 16), [.l 7, .l 0], none, 0⟩,
  ⟨9, .N .mv, [.l 0], none, 0⟩] := Eq.trans rfl rfl
theorem er46_15 (φ : Nat → Nat) : r46_15 φ = [
  ⟨0, .N .mv, [.n 10], none, 0⟩,
  ⟨1, .N (.bin .add), [.l 0, .c (.int .i64 1)], none, 0⟩,
  ⟨2, .N .mv, [.l 0], none, 0⟩] := Eq.trans rfl rfl
theorem er46_17 (φ : Nat → Nat) : r46_17 φ = [
  ⟨0, .N (.fadd 0), [.n 3], none, 0⟩,
  ⟨1, .N .load1, [.l 0], none, 0⟩,
  ⟨2, .N (.build [.int .i64 0, .nils] [(0, 1)]), [.l 0], none, 0⟩,
  ⟨3, .N (.alloc [.int .i64 0, .nils]), [], none, 0⟩,
  ⟨4, .X (.store 2), [.l 0, .l 1], none, 0⟩] := Eq.trans rfl rfl
theorem er46_18 (φ : Nat → Nat) : r46_18 φ = [
  ⟨0, .N .mv, [.c (.int .i64 0)], none, 0⟩] := Eq.trans rfl rfl
theorem er46_19 (φ : Nat → Nat) : r46_19 φ = [
  ⟨0, .N .mv, [.n 12], none, 0⟩,
  ⟨1, .N (.fadd 0), [.n 3], none, 0⟩,
  ⟨2, .N .load1, [.l 0], none, 0⟩,
  ⟨3, .N (.bin .lss), [.l 2, .l 0], none, 0⟩] := Eq.trans rfl rfl
theorem er46_20 (φ : Nat → Nat) : r46_20 φ = [
  ⟨0, .N .mv, [.n 12], none, 0⟩,
  ⟨1, .N (.bin .add), [.l 0, .c (.int .i64 1)], none, 0⟩,
  ⟨2, .N .mv, [.l 0], none, 0⟩] := Eq.trans rfl rfl
theorem er46_21 (φ : Nat → Nat) : r46_21 φ = [
  ⟨0, .N .mv, [.n 13], none, 0⟩,
  ⟨1, .N (.fadd 0), [.n 3], none, 0⟩,
  ⟨2, .N .load1, [.l 0], none, 0⟩,
  ⟨3, .N (.bin .lss), [.l 2, .l 0], none, 0⟩] := Eq.trans rfl rfl
theorem er46_22 (φ : Nat → Nat) : r46_22 φ = [
  ⟨0, .N .mv, [.c (.int .i64 0)], none, 0⟩] := Eq.trans rfl rfl
theorem er46_23 (φ : Nat → Nat) : r46_23 φ = [
  ⟨0, .N .mv, [.n 14], none, 0⟩,
  ⟨1, .N .mv, [.n 8], none, 0⟩,
  ⟨2, .N .lenS, [.l 0], none, 0⟩,
  ⟨3, .N (.bin .lss), [.l 2, .l 0], none, 0⟩] := Eq.trans rfl rfl
theorem er46_24 (φ : Nat → Nat) : r46_24 φ = [
  ⟨0, .N .mv, [.n 8], none, 0⟩,
  ⟨1, .N .mv, [.n 14], none, 0⟩,
  ⟨2, .N (.idx 2), [.l 1, .l 0], none, 0⟩,
  ⟨3, .N (.fadd 0), [.l 0], none, 0⟩,
  ⟨4, .N .load1, [.l 0], none, 0⟩,
  ⟨5, .N .mv, [.n 12], none, 0⟩,
  ⟨6, .N (.bin .eql), [.l 1, .l 0], none, 0⟩,
  ⟨7, .N .mv, [.l 0], none, 0⟩,
  ⟨8, .N .mv, [.n 8], some (.l 0, true), 0⟩,
  ⟨9, .N .mv, [.n 14], some (.l 1, true), 0⟩,
  ⟨10, .N (.idx 2), [.l 1, .l 0], some (.l 2, true), 0⟩,
  ⟨11, .N (.fadd 1), [.l 0], some (.l 3, true), 0⟩,
  ⟨12, .N .load1, [.l 0], some (.l 4, true), 0⟩,
  ⟨13, .N .mv, [.n 13], some (.l 5, true), 0⟩,
  ⟨14, .N (.bin .eql), [.l 1, .l 0], some (.l 6, true), 0⟩,
  ⟨15, .N .pick, [.l 7, .l 0, .c (.bool false)], none, 0⟩,
  ⟨16, .N .mv, [.l 0], none, 0⟩,
  ⟨17, .N .mv, [.n 8], some (.l 0, false), 0⟩,
  ⟨18, .N .mv, [.n 14], some (.l 1, false), 0⟩,
  ⟨19, .N (.idx 2), [.l 1, .l 0], some (.l 2, false), 0⟩,
  ⟨20, .N (.fadd 0), [.l 0], some (.l 3, false), 0⟩,
  ⟨21, .N .load1, [.l 0], some (.l 4, false), 0⟩,
  ⟨22, .N .mv, [.n 13], some (.l 5, false), 0⟩,
  ⟨23, .N (.bin .eql), [.l 1, .l 0], some (.l 6, false), 0⟩,
  ⟨24, .N .mv, [.l 0], some (.l 7, false), 0⟩,
  ⟨25, .N .mv, [.n 8], some (.l 0, true), 0⟩,
  ⟨26, .N .mv, [.n 14], some (.l 1, true), 0⟩,
  ⟨27, .N (.idx 2), [.l 1, .l 0], some (.l 2, true), 0⟩,
  ⟨28, .N (.fadd 1), [.l 0], some (.l 3, true), 0⟩,
  ⟨29, .N .load1, [.l 0], some (.l 4, true), 0⟩,
  ⟨30, .N .mv, [.n 12], some (.l 5, true), 0⟩,
  ⟨31, .N (.bin .eql), [.l 1, .l 0], some (.l 6, true), 0⟩,
  ⟨32, .N .pick, [.l 7, .l 0, .c (.bool false)], some (.l 15, false), 0⟩,
  ⟨33, .N .pick, [.l 16, .c (.bool true), .l 0], none, 0⟩] := Eq.trans rfl rfl
theorem er46_25 (φ : Nat → Nat) : r46_25 φ = [
  ⟨0, .N (.fadd 1), [.n 11], none, 0⟩,
  ⟨1, .N .load1, [.l 0], none, 0⟩,
  ⟨2, .N .mv, [.n 12], none, 0⟩,
  ⟨3, .N .mv, [.n 13], none, 0⟩,
  ⟨4, .N (.build [.int .i64 0, .int .i64 0] [(0, 1), (1, 1)]), [.l 1, .l 0], none, 0⟩,
  ⟨5, .N (.bsl [.int .i64 0, .int .i64 0] 1 2 [(0, 2)]), [.l 0], none, 0⟩,
  ⟨6, .X (.app 2 16), [.l 4, .l 0], none, 0⟩,
  ⟨7, .N (.fadd 1), [.n 11], none, 0⟩,
  ⟨8, .X (.store 1), [.l 0, .l 1], none, 0⟩] := Eq.trans rfl rfl
theorem er46_26 (φ : Nat → Nat) : r46_26 φ = [
  ⟨0, .N .mv, [.n 14], none, 0⟩,
  ⟨1, .N (.bin .add), [.l 0, .c (.int .i64 1)], none, 0⟩,
  ⟨2, .N .mv, [.l 0], none, 0⟩] := Eq.trans rfl rfl
theorem er46_28 (φ : Nat → Nat) : r46_28 φ = [
  ⟨0, .N .mv, [.n 13], none, 0⟩,
  ⟨1, .N (.bin .add), [.l 0, .c (.int .i64 1)], none, 0⟩,
  ⟨2, .N .mv, [.l 0], none, 0⟩] := Eq.trans rfl rfl
theorem er46_30 (φ : Nat → Nat) : r46_30 φ = [
  ⟨0, .N .mv, [.n 12], none, 0⟩,
  ⟨1, .N (.bin .add), [.l 0, .c (.int .i64 1)], none, 0⟩,
  ⟨2, .N .mv, [.l 0], none, 0⟩] := Eq.trans rfl rfl
theorem er46_32 (φ : Nat → Nat) : r46_32 φ = [
  ⟨0, .N (.loadN 2), [.n 11], none, 0⟩,
  ⟨1, .N .mv, [.n 7], none, 0⟩,
  ⟨2, .calli false (φ 44), [.l 1, .l 0], none, 0⟩,
  ⟨3, .N (.ext 0), [.l 0], none, 0⟩,
  ⟨4, .N (.ext 1), [.l 1], none, 0⟩,
  ⟨5, .X (.store 2), [.n 4, .l 1], none, 0⟩,
  ⟨6, .N .mv, [.l 1], none, 0⟩] := Eq.trans rfl rfl
set_option maxHeartbeats 4000000 in
theorem w_RContract (h : Has A (φ 46) (f46 φ)) (hRc : RightC A (φ 6)) (hH : ∀ n a b v es, IsE v es → PVal A (φ 8) [gV n v, .int .i64 a, .int .i64 b] (.bool (hasE n es a b)))
    (hNr : ∀ n a v es, IsE v es → PVal A (φ 10) [gV n v, .int .i64 a] (vI (if rightE n es then sortI (nbR a es) else [])))
    (hD : ∀ n v es x, IsE v es → PVal A (φ 44) [gV n v, .int .i64 x] (gR (deleteE n es x)))
    (n : Int) (hn60 : n ≤ 60) (v : AV) (es : List Ed) (hv : IsE v es) (a b : Int) : PVal A (φ 46) [gV n v, .int .i64 a, .int .i64 b] (gR (refConE n es a b)) := by
  have hone := hv.one
  have hcl := hv.closed
  have cR := (hRc n v es hv).eq
  have cH := (hH n a b v es hv).eq
  have m1 := minV_i a b
  have m2 := maxV_i a b
  have hnil : rE ([] : List Ed) = AV.nils := rfl
  have hdef : refConE n es a b = if rightE n es = false then (0, [], 1) else if min a b < 0 ∨ n ≤ max a b then (0, [], 4) else if hasE n es a b = false then (0, [], 6) else deleteE n (conR n es (min a b) (max a b)) (max a b) := rfl
  refine pval_has h rfl ?_
  simp only [l46_16, l46_27, l46_29, l46_31, b46, f46]
  by_cases hR : rightE n es = true
  · have hn := right_len hR
    simp [hR] at cR
    rw [if_neg (by simp [hR])] at hdef
    by_cases hb : min a b < 0 ∨ n ≤ max a b
    · rw [if_pos hb] at hdef
      have hc : a < 0 ∨ (¬ a < 0 ∧ b < 0) ∨ (¬ a < 0 ∧ ¬ b < 0 ∧ n ≤ a) ∨ (¬ a < 0 ∧ ¬ b < 0 ∧ ¬ n ≤ a ∧ n ≤ b) := by omega
      rcases hc with q1 | ⟨q1, q2⟩ | ⟨q1, q2, q3⟩ | ⟨q1, q2, q3, q4⟩
      · simp [-List.getD_eq_getElem?_getD, -Int.ofNat_toNat, -getElem?_pos, er46_0, er46_1, er46_2, er46_3, er46_4, er46_5, er46_6, er46_7, er46_8, er46_9, er46_10, er46_11, er46_12, er46_13, er46_14, er46_15, er46_17, er46_18, er46_19, er46_20, er46_21, er46_22, er46_23, er46_24, er46_25, er46_26, er46_28, er46_30, er46_32, hone, hcl, cR, q1, hdef, hnil, resK, resVs, resV, pack, viewG0]
      · simp [-List.getD_eq_getElem?_getD, -Int.ofNat_toNat, -getElem?_pos, er46_0, er46_1, er46_2, er46_3, er46_4, er46_5, er46_6, er46_7, er46_8, er46_9, er46_10, er46_11, er46_12, er46_13, er46_14, er46_15, er46_17, er46_18, er46_19, er46_20, er46_21, er46_22, er46_23, er46_24, er46_25, er46_26, er46_28, er46_30, er46_32, hone, hcl, cR, q1, q2, hdef, hnil, resK, resVs, resV, pack, viewG0]
      · simp [-List.getD_eq_getElem?_getD, -Int.ofNat_toNat, -getElem?_pos, er46_0, er46_1, er46_2, er46_3, er46_4, er46_5, er46_6, er46_7, er46_8, er46_9, er46_10, er46_11, er46_12, er46_13, er46_14, er46_15, er46_17, er46_18, er46_19, er46_20, er46_21, er46_22, er46_23, er46_24, er46_25, er46_26, er46_28, er46_30, er46_32, hone, hcl, cR, q1, q2, q3, hdef, hnil, resK, resVs, resV, pack, viewG0]
      · simp [-List.getD_eq_getElem?_getD, -Int.ofNat_toNat, -getElem?_pos, er46_0, er46_1, er46_2, er46_3, er46_4, er46_5, er46_6, er46_7, er46_8, er46_9, er46_10, er46_11, er46_12, er46_13, er46_14, er46_15, er46_17, er46_18, er46_19, er46_20, er46_21, er46_22, er46_23, er46_24, er46_25, er46_26, er46_28, er46_30, er46_32, hone, hcl, cR, q1, q2, q3, q4, hdef, hnil, resK, resVs, resV, pack, viewG0]
    · rw [if_neg hb] at hdef
      obtain ⟨q1, q2, q3, q4⟩ : ¬ a < 0 ∧ ¬ b < 0 ∧ ¬ n ≤ a ∧ ¬ n ≤ b := by omega
      cases hh : hasE n es a b with
      | false =>
        rw [hh] at cH
        rw [if_pos hh] at hdef
        simp [-List.getD_eq_getElem?_getD, -Int.ofNat_toNat, -getElem?_pos, er46_0, er46_1, er46_2, er46_3, er46_4, er46_5, er46_6, er46_7, er46_8, er46_9, er46_10, er46_11, er46_12, er46_13, er46_14, er46_15, er46_17, er46_18, er46_19, er46_20, er46_21, er46_22, er46_23, er46_24, er46_25, er46_26, er46_28, er46_30, er46_32, hone, hcl, cR, cH, q1, q2, q3, q4, hdef, hnil, resK, resVs, resV, pack, viewG0]
      | true =>
        rw [hh] at cH
        rw [if_neg (by simp [hh])] at hdef
        generalize min a b = lo at *
        generalize max a b = hi at *
        have c5 := (hNr n hi v es hv).eq
        rw [hR, if_pos rfl] at c5
        have iW := isI_v (sortI (nbR hi es))
        have hWl := iW.len
        have hnbl := nbR_len hi es
        have hnbs : (sortI (nbR hi es)).length = (nbR hi es).length := sortI_len _
        have hall : allE es lo hi = es ++ ((sortI (nbR hi es)).filter fun x => decide (x ≠ lo)).map fun x => (lo, x) := rfl
        generalize sortI (nbR hi es) = nb at *
        generalize vI nb = W at *
        have h0 : Own false 3 ([.cells 0 false [.int .i64 n, v], .cells 0 false [.int .i64 0, .nils], .cells 0 false []] : Heap) (.sl 2 0 0 0 2 0 true) 2 0 [] := .inl ⟨rfl, rfl, 2, 0, 0, rfl⟩
        obtain ⟨o0, H0, x1, x2, x3, x4, x5⟩ := Own.app (bytes := 16) h0 (hv.src _) (cellsE_length _) (ones_cE _) (by simp) (by simp; omega)
        have ho0 : OwnE false 3 H0 o0 es := by simpa [OwnE] using x2
        have e0 : H0[0]? = some (.cells 0 false [.int .i64 n, v]) := by rw [x3 0 (by simp) (by simp [blkOf])]; rfl
        have e1 : H0[1]? = some (.cells 0 false [.int .i64 0, .nils]) := by rw [x3 1 (by simp) (by simp [blkOf])]; rfl
        have hL0 : 3 ≤ H0.length := x4
        clear x2 x3 x4 x5
        simp [-List.getD_eq_getElem?_getD, -Int.ofNat_toNat, -getElem?_pos, er46_0, er46_1, er46_2, er46_3, er46_4, er46_5, er46_6, er46_7, er46_8, er46_9, er46_10, er46_11, er46_12, er46_13, er46_14, er46_15, er46_17, er46_18, er46_19, er46_20, er46_21, er46_22, er46_23, er46_24, er46_25, er46_26, er46_28, er46_30, er46_32, hone, hcl, cR, cH, q1, q2, q3, q4, m1, m2, foldV, x1, e0, e1, c5, iW.closed, iW.one]
        refine pc_loopI (fun m st => ∃ (i : Nat) (o p18 p19 : AV) (H : Heap), i + m = nb.length ∧ OwnE false 3 H o (es ++ ((nb.take i).filter fun x => decide (x ≠ lo)).map fun x => (lo, x)) ∧ H[0]? = some (.cells 0 false [.int .i64 n, v]) ∧ H[1]? = some (.cells 0 false [.int .i64 0, .nils]) ∧ 3 ≤ H.length ∧
          st = ([gV n v, .int .i64 a, .int .i64 b, .ptr 0 0 0, .ptr 1 0 0, .int .i64 0, .int .i64 lo, .int .i64 hi, o, W, .int .i64 i, .un, .un, .un, .un, .bool false, .bool false, .bool false, p18, p19, .un, .un, .un, .un], H)) nb.length
          ⟨0, _, _, _, _, by simp, by simpa using ho0, e0, e1, hL0, rfl⟩ ?_
        rintro m st ⟨i, o, p18, p19, H, hi', ho, e0, e1, hL, rfl⟩
        by_cases hlt : i < nb.length
        · have hlt' : (i : Int) < nb.length := by omega
          obtain ⟨w1, w2⟩ := iW.at hlt
          have hiw := wrap1 hlt (by omega)
          have hts : nb.take (i + 1) = nb.take i ++ [nb[i]] := List.take_succ_eq_append_getElem hlt
          by_cases q5 : nb[i] = lo
          · have hsn : (nb.take (i + 1)).filter (fun x => decide (x ≠ lo)) = (nb.take i).filter (fun x => decide (x ≠ lo)) := by rw [hts, List.filter_append]; simp [q5]
            simp [-List.getD_eq_getElem?_getD, -Int.ofNat_toNat, -getElem?_pos, er46_0, er46_1, er46_2, er46_3, er46_4, er46_5, er46_6, er46_7, er46_8, er46_9, er46_10, er46_11, er46_12, er46_13, er46_14, er46_15, er46_17, er46_18, er46_19, er46_20, er46_21, er46_22, er46_23, er46_24, er46_25, er46_26, er46_28, er46_30, er46_32, hWl, hlt', hlt, w1, w2, q5, hiw]
            exact next_mk (m - 1) (by omega) ⟨i + 1, o, _, _, H, by omega, by rw [hsn]; exact ho, e0, e1, hL, rfl⟩
          · have hsn : ((nb.take (i + 1)).filter (fun x => decide (x ≠ lo))).map (fun x => (lo, x)) = ((nb.take i).filter (fun x => decide (x ≠ lo))).map (fun x => (lo, x)) ++ [(lo, nb[i])] := by rw [hts, List.filter_append, List.map_append]; simp [q5]
            have hfl : ((nb.take i).filter fun x => decide (x ≠ lo)).length ≤ (nb.take i).length := List.length_filter_le _ _
            have hfl2 : (nb.take i).length ≤ nb.length := by simp; omega
            obtain ⟨o1, H1, y1, y2, y3, y4, _, _⟩ := OwnE.app1 ho lo nb[i] (by omega) (by simp only [List.length_append, List.length_map]; omega)
            simp [-List.getD_eq_getElem?_getD, -Int.ofNat_toNat, -getElem?_pos, er46_0, er46_1, er46_2, er46_3, er46_4, er46_5, er46_6, er46_7, er46_8, er46_9, er46_10, er46_11, er46_12, er46_13, er46_14, er46_15, er46_17, er46_18, er46_19, er46_20, er46_21, er46_22, er46_23, er46_24, er46_25, er46_26, er46_28, er46_30, er46_32, hWl, hlt', hlt, w1, w2, q5, hiw, y1]
            exact next_mk (m - 1) (by omega) ⟨i + 1, o1, _, _, H1, by omega, by rw [hsn, ← List.append_assoc]; exact y2, by rw [y3 0 (by omega)]; exact e0, by rw [y3 1 (by omega)]; exact e1, by omega, rfl⟩
        · have hlt' : ¬ (i : Int) < nb.length := by omega
          rw [List.take_of_length_le (by omega), ← hall] at ho
          have hal : (allE es lo hi).length ≤ 100000 := by
            rw [hall, List.length_append, List.length_map]
            have := List.length_filter_le (fun x => decide (x ≠ lo)) nb
            omega
          have hcR : conR n es lo hi = accE (inE (allE es lo hi)) n.toNat n.toNat n.toNat := rfl
          have hinE : ∀ x y : Nat, inE (allE es lo hi) x y = (allE es lo hi).any fun e => decide (e.1 = (x : Int) ∧ e.2 = (y : Int)) || decide (e.1 = (y : Int) ∧ e.2 = (x : Int)) := fun x y => rfl
          generalize allE es lo hi = all at *
          obtain ⟨N, rfl⟩ : ∃ N : Nat, n = (N : Int) := ⟨n.toNat, by omega⟩
          rw [show ((N : Int)).toNat = N by omega] at hcR
          generalize inE all = F at *
          have hblk : ∀ bb, blkOf o = some bb → bb < H.length := fun bb hbb => (Own.blk ho hbb).2
          simp [-List.getD_eq_getElem?_getD, -Int.ofNat_toNat, -getElem?_pos, er46_0, er46_1, er46_2, er46_3, er46_4, er46_5, er46_6, er46_7, er46_8, er46_9, er46_10, er46_11, er46_12, er46_13, er46_14, er46_15, er46_17, er46_18, er46_19, er46_20, er46_21, er46_22, er46_23, er46_24, er46_25, er46_26, er46_28, er46_30, er46_32, hWl, hlt', hlt, e0, get_at, get_at0, set_at, set_at0]
          refine pc_loopI (fun m st => ∃ (x : Nat) (o2 y13 i14 p20 p21 p22 p23 : AV) (H2 : Heap), x + m = N ∧ OwnE true (H.length + 1) H2 o2 (accE F N x (x + 1)) ∧ (∀ bb, bb < H.length → H2[bb]? = H[bb]?) ∧ H2[H.length]? = some (.cells 0 false [.int .i64 N, o2]) ∧
            st = ([gV N v, .int .i64 a, .int .i64 b, .ptr 0 0 0, .ptr 1 0 0, .int .i64 0, .int .i64 lo, .int .i64 hi, o, W, .int .i64 i, .ptr H.length 0 0, .int .i64 x, y13, i14, .bool false, .bool false, .bool false, .bool false, p19, p20, p21, p22, p23], H2)) N
            ⟨0, _, _, _, _, _, _, _, _, by simp, by rw [show accE F N 0 (0 + 1) = [] by simp [accE, rowE_nil]]; exact own_nil _ _ _, fun bb hbb => List.getElem?_append_left hbb, get_at0 _ _, rfl⟩ ?_
          rintro m st ⟨x, o2, y13, i14, p20, p21, p22, p23, H2, hx, ho2, hold, e2, rfl⟩
          have z0 : H2[0]? = some (.cells 0 false [.int .i64 N, v]) := by rw [hold 0 (by omega)]; exact e0
          have z1 : H2[1]? = some (.cells 0 false [.int .i64 0, .nils]) := by rw [hold 1 (by omega)]; exact e1
          by_cases hxN : x < N
          · have hxN' : (x : Int) < N := by omega
            have hxw := wrap1 hxN (by omega)
            simp [-List.getD_eq_getElem?_getD, -Int.ofNat_toNat, -getElem?_pos, er46_0, er46_1, er46_2, er46_3, er46_4, er46_5, er46_6, er46_7, er46_8, er46_9, er46_10, er46_11, er46_12, er46_13, er46_14, er46_15, er46_17, er46_18, er46_19, er46_20, er46_21, er46_22, er46_23, er46_24, er46_25, er46_26, er46_28, er46_30, er46_32, z0, hxN', hxN, hxw]
            refine pc_loopI (fun m2 st => ∃ (y : Nat) (o2 i14 p21 p22 p23 : AV) (H2 : Heap), y + m2 = N ∧ x < y ∧ OwnE true (H.length + 1) H2 o2 (accE F N x y) ∧ (∀ bb, bb < H.length → H2[bb]? = H[bb]?) ∧ H2[H.length]? = some (.cells 0 false [.int .i64 N, o2]) ∧
              st = ([gV N v, .int .i64 a, .int .i64 b, .ptr 0 0 0, .ptr 1 0 0, .int .i64 0, .int .i64 lo, .int .i64 hi, o, W, .int .i64 i, .ptr H.length 0 0, .int .i64 x, .int .i64 y, i14, .bool false, .bool false, .bool false, .bool false, p19, .bool true, p21, p22, p23], H2)) (N - (x + 1))
              ⟨x + 1, _, _, _, _, _, _, by omega, by omega, ho2, hold, e2, rfl⟩ ?_
            clear z0 z1 e2 ho2 hold
            rintro m2 st2 ⟨y, o2, i14, p21, p22, p23, H2, hy, hxy, ho2, hold, e2, rfl⟩
            have z0 : H2[0]? = some (.cells 0 false [.int .i64 N, v]) := by rw [hold 0 (by omega)]; exact e0
            have hoA : OwnE false 3 H2 o all := Own.keep ho fun bb hb hbe => hold bb (hblk bb hbe)
            by_cases hyN : y < N
            · have hyN' : (y : Int) < N := by omega
              have hyw := wrap1 hyN (by omega)
              have hAl := Own.len hoA
              have hsn : accE F N x (y + 1) = accE F N x y ++ (if x < y ∧ F x y = true then [((x : Int), (y : Int))] else []) := by
                simp only [accE, rowE_snoc, List.append_assoc]
              have hal2 := accE_len F N x y (by omega)
              have hmul : (x + 1) * N ≤ 100 * 100 := Nat.mul_le_mul (by omega) (by omega)
              have hinE := hinE x y
              simp [-List.getD_eq_getElem?_getD, -Int.ofNat_toNat, -getElem?_pos, er46_0, er46_1, er46_2, er46_3, er46_4, er46_5, er46_6, er46_7, er46_8, er46_9, er46_10, er46_11, er46_12, er46_13, er46_14, er46_15, er46_17, er46_18, er46_19, er46_20, er46_21, er46_22, er46_23, er46_24, er46_25, er46_26, er46_28, er46_30, er46_32, z0, hyN', hyN, hyw]
              refine pc_loopI (fun m3 st => ∃ (k : Nat) (p22 p23 : AV), k + m3 = all.length ∧ (all.take k).any (fun e => decide (e.1 = (x : Int) ∧ e.2 = (y : Int)) || decide (e.1 = (y : Int) ∧ e.2 = (x : Int))) = false ∧
                st = ([gV N v, .int .i64 a, .int .i64 b, .ptr 0 0 0, .ptr 1 0 0, .int .i64 0, .int .i64 lo, .int .i64 hi, o, W, .int .i64 i, .ptr H.length 0 0, .int .i64 x, .int .i64 y, .int .i64 k, .bool false, .bool false, .bool false, .bool false, p19, .bool true, .bool true, p22, p23], H2)) all.length
                ⟨0, _, _, by simp, by simp, rfl⟩ ?_
              rintro m3 st3 ⟨k, p22, p23, hk, hno, rfl⟩
              by_cases hkl : k < all.length
              · have hkl' : (k : Int) < all.length := by omega
                have hkw := wrap1 hkl (by omega)
                obtain ⟨b0, g0, oi, oc, _, _, _⟩ := Own.at hoA hkl
                obtain ⟨c1, c2⟩ := cellsE_get all k hkl
                have hts : all.take (k + 1) = all.take k ++ [all[k]] := List.take_succ_eq_append_getElem hkl
                have hmem := List.getElem_mem hkl
                generalize all[k] = e at *
                by_cases hm : (e.1 = (x : Int) ∧ e.2 = (y : Int)) ∨ (e.1 = (y : Int) ∧ e.2 = (x : Int))
                · have hF : F x y = true := by rw [hinE]; exact List.any_eq_true.2 ⟨e, hmem, by simpa using hm⟩
                  rw [if_pos ⟨hxy, hF⟩] at hsn
                  obtain ⟨o3, H3, y1, y2, y3, y4, _, _⟩ := OwnE.app1 ho2 (x : Int) (y : Int) (lt_of_get e2) (by omega)
                  have e2' : H3[H.length]? = some (.cells 0 false [.int .i64 (N : Int), o2]) := by rw [y3 _ (by omega)]; exact e2
                  have hone1 : o3.one = true := Own.one y2
                  have hcell1 : o3.cells = [o3] := Own.cells y2
                  have hs1 : setAt [.int .i64 (N : Int), o2] 1 [o3] = [.int .i64 (N : Int), o3] := rfl
                  have fin : ∀ q22 q23 : AV, nextC (fun k st => ∃ (y : Nat) (o2 i14 p21 p22 p23 : AV) (H2 : Heap), y + k = N ∧ x < y ∧ OwnE true (H.length + 1) H2 o2 (accE F N x y) ∧ (∀ bb, bb < H.length → H2[bb]? = H[bb]?) ∧ H2[H.length]? = some (.cells 0 false [.int .i64 N, o2]) ∧
                    st = ([gV N v, .int .i64 a, .int .i64 b, .ptr 0 0 0, .ptr 1 0 0, .int .i64 0, .int .i64 lo, .int .i64 hi, o, W, .int .i64 i, .ptr H.length 0 0, .int .i64 x, .int .i64 y, i14, .bool false, .bool false, .bool false, .bool false, p19, .bool true, p21, p22, p23], H2)) () m2
                    ([gV N v, .int .i64 a, .int .i64 b, .ptr 0 0 0, .ptr 1 0 0, .int .i64 0, .int .i64 lo, .int .i64 hi, o, W, .int .i64 i, .ptr H.length 0 0, .int .i64 x, .int .i64 ((y + 1 : Nat) : Int), .int .i64 k, .bool false, .bool false, .bool false, .bool false, p19, .bool true, .bool true, q22, q23], H3.set H.length (.cells 0 false [.int .i64 N, o3])) := fun q22 q23 => by
                    refine next_mk (m2 - 1) (by omega) ⟨y + 1, o3, _, _, _, _, H3.set H.length (.cells 0 false [.int .i64 N, o3]), by omega, by omega, ?_, fun bb hbb => ?_, List.getElem?_set_self (lt_of_get e2'), rfl⟩
                    · rw [hsn]; exact Own.keep y2 fun bb hb hbv => List.getElem?_set_ne (by have := (Own.blk y2 hbv).1; omega)
                    · rw [List.getElem?_set_ne (by omega), y3 _ (by omega)]; exact hold bb hbb
                  have hlt2 := hkl
                  rcases (show (e.1 = (x : Int) ∧ e.2 = (y : Int)) ∨ (¬ e.1 = (x : Int) ∧ e.1 = (y : Int) ∧ e.2 = (x : Int)) by omega) with ⟨r1, r2⟩ | ⟨r1, r2, r3⟩
                  · simp [-List.getD_eq_getElem?_getD, -Int.ofNat_toNat, -getElem?_pos, er46_0, er46_1, er46_2, er46_3, er46_4, er46_5, er46_6, er46_7, er46_8, er46_9, er46_10, er46_11, er46_12, er46_13, er46_14, er46_15, er46_17, er46_18, er46_19, er46_20, er46_21, er46_22, er46_23, er46_24, er46_25, er46_26, er46_28, er46_30, er46_32, hAl, hkl, hkl', oi, oc, c1, c2, r1, r2, e2, e2', y1, hone1, hcell1, hs1, hyw]
                    exact fin _ _
                  · have r4 : ¬ y = x := by omega
                    have r5 : ¬ (y : Int) = (x : Int) := by omega
                    simp [-List.getD_eq_getElem?_getD, -Int.ofNat_toNat, -getElem?_pos, er46_0, er46_1, er46_2, er46_3, er46_4, er46_5, er46_6, er46_7, er46_8, er46_9, er46_10, er46_11, er46_12, er46_13, er46_14, er46_15, er46_17, er46_18, er46_19, er46_20, er46_21, er46_22, er46_23, er46_24, er46_25, er46_26, er46_28, er46_30, er46_32, hAl, hkl, hkl', oi, oc, c1, c2, r1, r2, r3, r4, r5, e2, e2', y1, hone1, hcell1, hs1, hyw]
                    exact fin _ _
                · have hno2 : (all.take (k + 1)).any (fun e => decide (e.1 = (x : Int) ∧ e.2 = (y : Int)) || decide (e.1 = (y : Int) ∧ e.2 = (x : Int))) = false := by
                    rw [hts, List.any_append, hno, List.any_cons, List.any_nil, Bool.or_false, Bool.false_or]; simpa using hm
                  rcases (show (e.1 = (x : Int) ∧ ¬ e.2 = (y : Int) ∧ ¬ e.1 = (y : Int)) ∨ (¬ e.1 = (x : Int) ∧ e.1 = (y : Int) ∧ ¬ e.2 = (x : Int)) ∨ (¬ e.1 = (x : Int) ∧ ¬ e.1 = (y : Int)) by omega) with ⟨r1, r2, r3⟩ | ⟨r1, r2, r3⟩ | ⟨r1, r2⟩
                  · have r4 : ¬ x = y := by omega
                    have r5 : ¬ (x : Int) = (y : Int) := by omega
                    simp [-List.getD_eq_getElem?_getD, -Int.ofNat_toNat, -getElem?_pos, er46_0, er46_1, er46_2, er46_3, er46_4, er46_5, er46_6, er46_7, er46_8, er46_9, er46_10, er46_11, er46_12, er46_13, er46_14, er46_15, er46_17, er46_18, er46_19, er46_20, er46_21, er46_22, er46_23, er46_24, er46_25, er46_26, er46_28, er46_30, er46_32, hAl, hkl, hkl', oi, oc, c1, c2, r1, r2, r4, r5, hkw]
                    exact next_mk (m3 - 1) (by omega) ⟨k + 1, _, _, by omega, hno2, rfl⟩
                  · have r4 : ¬ y = x := by omega
                    have r5 : ¬ (y : Int) = (x : Int) := by omega
                    simp [-List.getD_eq_getElem?_getD, -Int.ofNat_toNat, -getElem?_pos, er46_0, er46_1, er46_2, er46_3, er46_4, er46_5, er46_6, er46_7, er46_8, er46_9, er46_10, er46_11, er46_12, er46_13, er46_14, er46_15, er46_17, er46_18, er46_19, er46_20, er46_21, er46_22, er46_23, er46_24, er46_25, er46_26, er46_28, er46_30, er46_32, hAl, hkl, hkl', oi, oc, c1, c2, r1, r2, r3, r4, r5, hkw]
                    exact next_mk (m3 - 1) (by omega) ⟨k + 1, _, _, by omega, hno2, rfl⟩
                  · simp [-List.getD_eq_getElem?_getD, -Int.ofNat_toNat, -getElem?_pos, er46_0, er46_1, er46_2, er46_3, er46_4, er46_5, er46_6, er46_7, er46_8, er46_9, er46_10, er46_11, er46_12, er46_13, er46_14, er46_15, er46_17, er46_18, er46_19, er46_20, er46_21, er46_22, er46_23, er46_24, er46_25, er46_26, er46_28, er46_30, er46_32, hAl, hkl, hkl', oi, oc, c1, c2, r1, r2, hkw]
                    exact next_mk (m3 - 1) (by omega) ⟨k + 1, _, _, by omega, hno2, rfl⟩
              · have hkl' : ¬ (k : Int) < all.length := by omega
                rw [List.take_of_length_le (by omega)] at hno
                have hF : F x y = false := by rw [hinE]; exact hno
                rw [if_neg (by simp [hF]), List.append_nil] at hsn
                simp [-List.getD_eq_getElem?_getD, -Int.ofNat_toNat, -getElem?_pos, er46_0, er46_1, er46_2, er46_3, er46_4, er46_5, er46_6, er46_7, er46_8, er46_9, er46_10, er46_11, er46_12, er46_13, er46_14, er46_15, er46_17, er46_18, er46_19, er46_20, er46_21, er46_22, er46_23, er46_24, er46_25, er46_26, er46_28, er46_30, er46_32, hAl, hkl, hkl', hyw]
                exact next_mk (m2 - 1) (by omega) ⟨y + 1, o2, _, _, _, _, H2, by omega, by omega, by rw [hsn]; exact ho2, hold, e2, rfl⟩
            · have hyN' : ¬ (y : Int) < N := by omega
              have hye : y = N := by omega
              subst hye
              rw [← accE_step] at ho2
              simp [-List.getD_eq_getElem?_getD, -Int.ofNat_toNat, -getElem?_pos, er46_0, er46_1, er46_2, er46_3, er46_4, er46_5, er46_6, er46_7, er46_8, er46_9, er46_10, er46_11, er46_12, er46_13, er46_14, er46_15, er46_17, er46_18, er46_19, er46_20, er46_21, er46_22, er46_23, er46_24, er46_25, er46_26, er46_28, er46_30, er46_32, z0, hxw]
              exact next_mk (m - 1) (by omega) ⟨x + 1, o2, _, _, _, _, _, _, H2, by omega, ho2, hold, e2, rfl⟩
          · have hxN' : ¬ (x : Int) < N := by omega
            have hxe : x = N := by omega
            subst hxe
            rw [show accE F x x (x + 1) = accE F x x x by simp [accE, rowE_nil], ← hcR] at ho2
            have va := (Own.vw ho2).g2 (closeds_cE _) (x : Int) (.int .i64 hi) rfl
            have hbo : ∀ bb, blkOf o2 = some bb → H.length + 1 ≤ bb := fun bb hb => (Own.blk ho2 hb).1
            have hFz : ∀ bb, bb < H.length + 1 → (frzOf H2 o2)[bb]? = H2[bb]? := fun bb hb => frzOf_get _ _ (fun h => by have := hbo bb h; omega)
            have i1 : IsE (rv true (conR x es lo hi).length 2 (cellsE (conR x es lo hi))) (conR x es lo hi) := is_rv (cellsE_length _) (closeds_cE _)
            have cD := (hD x _ _ hi i1).eq
            have f1 := (hFz 1 (by omega)).trans z1
            generalize frzOf H2 o2 = FZ at *
            generalize rv true (conR x es lo hi).length 2 (cellsE (conR x es lo hi)) = u1 at *
            rw [hdef]
            simp only [gR] at cD ⊢
            generalize deleteE x (conR x es lo hi) hi = y at *
            have iy := isE_r y.2.1
            have hset : ∀ z, (FZ.set 1 z)[1]? = some z := fun z => List.getElem?_set_self (lt_of_get f1)
            simp [-List.getD_eq_getElem?_getD, -Int.ofNat_toNat, -getElem?_pos, er46_0, er46_1, er46_2, er46_3, er46_4, er46_5, er46_6, er46_7, er46_8, er46_9, er46_10, er46_11, er46_12, er46_13, er46_14, er46_15, er46_17, er46_18, er46_19, er46_20, er46_21, er46_22, er46_23, er46_24, er46_25, er46_26, er46_28, er46_30, er46_32, z0, e2, va, cD, f1, iy.one, iy.cells, iy.closed, hset, resK, resVs, resV, pack]
  · simp only [Bool.not_eq_true] at hR
    rw [if_pos hR] at hdef
    simp [hR] at cR
    simp [-List.getD_eq_getElem?_getD, -Int.ofNat_toNat, -getElem?_pos, er46_0, er46_1, er46_2, er46_3, er46_4, er46_5, er46_6, er46_7, er46_8, er46_9, er46_10, er46_11, er46_12, er46_13, er46_14, er46_15, er46_17, er46_18, er46_19, er46_20, er46_21, er46_22, er46_23, er46_24, er46_25, er46_26, er46_28, er46_30, er46_32, hone, hcl, cR, hdef, hnil, resK, resVs, resV, pack, viewG0]
end Go.Ai.G
/- SubTells. -/
namespace Go.Ai.G
open Go.Ai
set_option maxRecDepth 100000
set_option linter.unusedSimpArgs false
set_option linter.unusedVariables false
variable {A : AProg} {φ : Nat → Nat}
attribute [local simp ↓] getD_z getD_s hid_k hid_o hid_q hid_v PO_nil PO_none PO_grd PD_nil PD_none PD_grd PDO_N PDO_X PDO_call PDO_calli PDO_callv PStep_N PStep_X PStep_call PStep_calli PC_skip PC_lab
  PC_ret PC_exit PC_reg PC_draw PC_seq PC_block PC_loop PC_scope PC_cond thenC_norm thenC_ret thenC_exit blockC_norm blockC_ret blockC_exit loopC_norm loopC_ret loopC_exit endR_ret
  endR_norm
attribute [local simp] gz PDX_free PDX_eq PStep_callv resK_none resK_t resK_tt KNO_val KNO_new KNO_ite KNO_map KXO_some KXO_ite KVA_t KVA_f KG_skip KG_tt KG_ff KG_tf KG_ft KB_true KB_false KNOD_val
  KNOD_new KNOD_ite n_mv n_pick n_bin n_eqB n_eqN n_eqS n_un n_conv n_fadd n_faddV n_fld1 n_fldN n_idx n_idxA n_idxV n_idxAV n_ext n_lenS n_lenS0 n_lenV n_lenT n_lenA n_min n_max
  n_build n_mkfn n_slc n_slc0 n_slcV n_slcA n_load1 n_loadN n_load1V n_loadNV n_alloc n_box n_bsl n_mksl n_nilcP n_nilcV n_nilcI n_nilcF x_store x_clear0 x_clear b_add b_sub b_mul
  b_eql b_neq b_lss b_leq b_gtr b_geq b_and16 unV ntouch gather hide unhide evalOpd applyOuts int_bne int_beq ite_bool ite_int one_bool cells_bool one_int cells_int one_str cells_str
  one_nilp cells_nilp one_ptr cells_ptr one_nils cells_nils one_sl cells_sl one_nilf cells_nilf one_fn cells_fn one_nili cells_nili one_mp cells_mp one_nilm cells_nilm one_iface
  cells_iface one_vs cells_vs one_vp cells_vp cells_agg Nat.testBit setAt_1 setAt_2 closeds_nil closeds_cons closed_bool closed_int closed_str closed_nilp closed_nils closed_nilm
  closed_nilf closed_nili closed_agg closed_tup closed_vs closed_vp closed_iface closed_fn closeds_cI closeds_cE viewA_closed viewR_closed AV.scal AV.scal0 fillA repA part_bool
  part_int part_str part_nilp part_ptr part_nils part_sl part_nilm part_mp part_nilf part_fn part_nili part_iface part_agg part_vs part_vp viewA_sl1 vaSl_cells wrap_0 wrap_1 wrap_2
  wrap_m1 set_last get_last
theorem er47_0 (φ : Nat → Nat) : r47_0 φ = [
  ⟨0, .N .box, [.n 0], none, 0⟩,
  ⟨1, .N .mv, [.c (.bool false)], none, 0⟩] := Eq.trans rfl rfl
theorem er47_1 (φ : Nat → Nat) : r47_1 φ = [
  ⟨0, .calli true (φ 38), [], none, 0⟩,
  ⟨1, .N .mv, [.l 0], none, 0⟩] := Eq.trans rfl rfl
theorem er47_2 (φ : Nat → Nat) : r47_2 φ = [
  ⟨0, .N (.loadN 2), [.n 3], none, 0⟩,
  ⟨1, .calli false (φ 39), [.l 0, .c (.int .i64 15)], none, 0⟩,
  ⟨2, .N (.alloc [.int .i64 0, .nils]), [], none, 0⟩,
  ⟨3, .X (.store 2), [.l 0, .l 1], none, 0⟩] := Eq.trans rfl rfl
theorem er47_3 (φ : Nat → Nat) : r47_3 φ = [
  ⟨0, .N (.loadN 2), [.n 6], none, 0⟩,
  ⟨1, .N .mv, [.n 1], none, 0⟩,
  ⟨2, .calli false (φ 43), [.l 1, .l 0], none, 0⟩,
  ⟨3, .N .mv, [.l 0], none, 0⟩,
  ⟨4, .N (.ext 0), [.l 0], none, 0⟩,
  ⟨5, .N (.ext 1), [.l 1], none, 0⟩,
  ⟨6, .N (.alloc [.int .i64 0, .nils]), [], none, 0⟩,
  ⟨7, .X (.store 2), [.l 0, .l 2], none, 0⟩,
  ⟨8, .N .mv, [.l 2], none, 0⟩] := Eq.trans rfl rfl
theorem er47_4 (φ : Nat → Nat) : r47_4 φ = [
  ⟨0, .N (.loadN 2), [.n 6], none, 0⟩,
  ⟨1, .N .mv, [.n 1], none, 0⟩,
  ⟨2, .calli false (φ 44), [.l 1, .l 0], none, 0⟩,
  ⟨3, .N .mv, [.l 0], none, 0⟩,
  ⟨4, .N (.ext 0), [.l 0], none, 0⟩,
  ⟨5, .N (.ext 1), [.l 1], none, 0⟩,
  ⟨6, .N (.alloc [.int .i64 0, .nils]), [], none, 0⟩,
  ⟨7, .X (.store 2), [.l 0, .l 2], none, 0⟩,
  ⟨8, .N .mv, [.l 2], none, 0⟩] := Eq.trans rfl rfl
theorem er47_5 (φ : Nat → Nat) : r47_5 φ = [
  ⟨0, .N (.loadN 2), [.n 6], none, 0⟩,
  ⟨1, .N .mv, [.n 1], none, 0⟩,
  ⟨2, .N .mv, [.n 2], none, 0⟩,
  ⟨3, .calli false (φ 45), [.l 2, .l 1, .l 0], none, 0⟩,
  ⟨4, .N .mv, [.l 0], none, 0⟩,
  ⟨5, .N (.ext 0), [.l 0], none, 0⟩,
  ⟨6, .N (.ext 1), [.l 1], none, 0⟩,
  ⟨7, .N (.alloc [.int .i64 0, .nils]), [], none, 0⟩,
  ⟨8, .X (.store 2), [.l 0, .l 2], none, 0⟩,
  ⟨9, .N .mv, [.l 2], none, 0⟩] := Eq.trans rfl rfl
theorem er47_6 (φ : Nat → Nat) : r47_6 φ = [
  ⟨0, .N (.loadN 2), [.n 6], none, 0⟩,
  ⟨1, .N .mv, [.n 1], none, 0⟩,
  ⟨2, .N .mv, [.n 2], none, 0⟩,
  ⟨3, .calli false (φ 46), [.l 2, .l 1, .l 0], none, 0⟩,
  ⟨4, .N .mv, [.l 0], none, 0⟩,
  ⟨5, .N (.ext 0), [.l 0], none, 0⟩,
  ⟨6, .N (.ext 1), [.l 1], none, 0⟩,
  ⟨7, .N (.alloc [.int .i64 0, .nils]), [], none, 0⟩,
  ⟨8, .X (.store 2), [.l 0, .l 2], none, 0⟩,
  ⟨9, .N .mv, [.l 2], none, 0⟩] := Eq.trans rfl rfl
theorem er47_7 (φ : Nat → Nat) : r47_7 φ = [
  ⟨0, .N .mv, [.n 5], none, 0⟩,
  ⟨1, .N .mv, [.l 0], none, 0⟩,
  ⟨2, .N .mv, [.n 8], some (.l 0, true), 0⟩,
  ⟨3, .N .mv, [.n 10], some (.l 1, true), 0⟩,
  ⟨4, .N (.bin .eql), [.l 1, .l 0], some (.l 2, true), 0⟩,
  ⟨5, .N .pick, [.l 3, .l 0, .c (.bool false)], none, 0⟩,
  ⟨6, .N .mv, [.l 0], none, 0⟩,
  ⟨7, .N .mv, [.n 12], some (.l 0, true), 0⟩,
  ⟨8, .N .mv, [.n 14], some (.l 1, true), 0⟩,
  ⟨9, .N (.bin .eql), [.l 1, .l 0], some (.l 2, true), 0⟩,
  ⟨10, .N .pick, [.l 3, .l 0, .c (.bool false)], none, 0⟩,
  ⟨11, .N .mv, [.l 0], none, 0⟩,
  ⟨12, .N (.loadN 2), [.n 7], some (.l 0, true), 0⟩,
  ⟨13, .N (.loadN 2), [.n 9], some (.l 1, true), 0⟩,
  ⟨14, .calli true (φ 3), [.l 1, .l 0], some (.l 2, true), 0⟩,
  ⟨15, .N .pick, [.l 3, .l 0, .c (.bool false)], none, 0⟩,
  ⟨16, .N .mv, [.l 0], none, 0⟩,
  ⟨17, .N (.loadN 2), [.n 11], some (.l 0, true), 0⟩,
  ⟨18, .N (.loadN 2), [.n 13], some (.l 1, true), 0⟩,
  ⟨19, .calli true (φ 3), [.l 1, .l 0], some (.l 2, true), 0⟩,
  ⟨20, .N .pick, [.l 3, .l 0, .c (.bool false)], none, 0⟩,
  ⟨21, .N .mv, [.l 0], none, 0⟩] := Eq.trans rfl rfl
structure ST (A : AProg) (φ : Nat → Nat) : Prop where
  w : Go.Ai.G.SW A φ
  rdel : ∀ n v es x, IsE v es → PVal A (φ 44) [gV n v, .int .i64 x] (gR (deleteE n es x))
  rcon : ∀ n a b v es, IsE v es → n ≤ 60 → PVal A (φ 46) [gV n v, .int .i64 a, .int .i64 b] (gR (contractE n es a b))
theorem delete_len (n : Int) (es : List Ed) (x : Int) : (deleteE n es x).2.1.length ≤ 4000 := by
  unfold deleteE
  split; · simp
  split; · simp
  exact normalE_len _ _
theorem contract_len (n : Int) (es : List Ed) (a b : Int) : (contractE n es a b).2.1.length ≤ 4000 := by
  unfold contractE
  split; · simp
  split; · simp
  split; · simp
  exact normalE_len _ _
set_option maxHeartbeats 1000000 in
theorem w_SubTells (h : Has A (φ 47) (f47 φ)) (hS : PVal A (φ 38) [] (.bool true)) (g : ST A φ) (n : Int) (v : AV) (l : List Ed) (hv : IsE v l) (a b : Int) :
    PVal A (φ 47) [gV n v, .int .i64 a, .int .i64 b] (.bool true) := by
  have hsh := hS.eq
  have hone := hv.one
  have hcl := hv.closed
  have c0 := (g.w.l.s.of n 15 v l hv (by omega) (by omega)).eq
  have hNr := anyN_range (n := n) (most := 15) (by omega)
  generalize anyN n 15 = N at *
  generalize anyE n 15 l = E at *
  have iE := isE_r E
  have c1 := (g.w.l.del N _ E a iE).eq
  have c2 := (g.rdel N _ E a iE).eq
  have c3 := (g.w.con N a b _ E iE).eq
  have c4 := (g.rcon N a b _ E iE (by omega)).eq
  have hy := delete_len N E a
  have hz := contract_len N E a b
  simp only [gR] at c1 c2 c3 c4
  generalize deleteE N E a = y at *
  generalize contractE N E a b = z at *
  have iy := isE_r y.2.1
  have iz := isE_r z.2.1
  have c5 := (g.w.l.s.sameG y.1 y.1 _ _ _ _ iy iy (by omega)).eq
  have c6 := (g.w.l.s.sameG z.1 z.1 _ _ _ _ iz iz (by omega)).eq
  generalize rE E = uE at *
  generalize rE y.2.1 = uy at *
  generalize rE z.2.1 = uz at *
  refine pval_has h rfl ?_
  simp only [b47, f47]
  simp [-List.getD_eq_getElem?_getD, -Int.ofNat_toNat, -getElem?_pos, er47_0, er47_1, er47_2, er47_3, er47_4, er47_5, er47_6, er47_7, hsh, hone, hcl, c0, c1, c2, c3, c4, c5, c6, iE.one, iE.cells, iE.closed, iy.one, iy.cells, iy.closed, iz.one, iz.cells, iz.closed, resK, resVs, resV, pack]
end Go.Ai.G
