/- A part of what the law leans on: the abstract machine, the contracts, the rows. -/
import Derived.Test.YtgoiomkgedcfjaaK12
/- SubTriangle, the walk. -/
namespace Go.Ai.G
open Go.Ai
set_option maxRecDepth 100000
set_option linter.unusedSimpArgs false
set_option linter.unusedVariables false
variable {A : AProg} {φ : Nat → Nat}
attribute [local simp ↓] getD_z getD_s hid_k hid_o hid_q hid_v PO_nil PO_none PO_grd PD_nil PD_none PD_grd PDO_N PDO_X PDO_call PDO_calli PDO_callv PStep_N PStep_X PStep_call PStep_calli PC_skip PC_lab
  PC_ret PC_exit PC_reg PC_draw PC_seq PC_block PC_loop PC_scope PC_cond thenC_norm thenC_ret thenC_exit blockC_norm blockC_ret blockC_exit loopC_norm loopC_ret loopC_exit endR_ret
  endR_norm
attribute [local simp] gz PDX_free PDX_eq PStep_callv resK_none resK_t resK_tt KNO_val KNO_new KNO_ite KNO_map KXO_some KXO_ite KVA_t KVA_f KG_skip KG_tt KG_ff KG_tf KG_ft KB_true KB_false KNOD_val
  KNOD_new KNOD_ite n_mv n_pick n_bin n_eqB n_eqN n_eqS n_un n_conv n_fadd n_faddV n_fld1 n_fldN n_idx n_idxA n_idxV n_idxAV n_ext n_lenS n_lenS0 n_lenV n_lenT n_lenA n_min n_max
  n_build n_mkfn n_slc n_slc0 n_slcV n_slcA n_load1 n_loadN n_load1V n_loadNV n_alloc n_box n_bsl n_mksl n_nilcP n_nilcV n_nilcI n_nilcF x_store x_clear0 x_clear b_add b_sub b_mul
  b_eql b_neq b_lss b_leq b_gtr b_geq b_and16 unV ntouch gather hide unhide evalOpd applyOuts int_bne int_beq ite_bool ite_int one_bool cells_bool one_int cells_int one_str cells_str
  one_nilp cells_nilp one_ptr cells_ptr one_nils cells_nils one_sl cells_sl one_nilf cells_nilf one_fn cells_fn one_nili cells_nili one_mp cells_mp one_nilm cells_nilm one_iface
  cells_iface one_vs cells_vs one_vp cells_vp cells_agg Nat.testBit setAt_1 setAt_2 closeds_nil closeds_cons closed_bool closed_int closed_str closed_nilp closed_nils closed_nilm
  closed_nilf closed_nili closed_agg closed_tup closed_vs closed_vp closed_iface closed_fn closeds_cI closeds_cE viewA_closed viewR_closed AV.scal AV.scal0 fillA repA part_bool
  part_int part_str part_nilp part_ptr part_nils part_sl part_nilm part_mp part_nilf part_fn part_nili part_iface part_agg part_vs part_vp viewA_sl1 vaSl_cells wrap_0 wrap_1 wrap_2
  wrap_m1 set_last get_last
theorem er51_0 (φ : Nat → Nat) : r51_0 φ = [
  ⟨0, .N .box, [.n 0], none, 0⟩,
  ⟨1, .N .box, [.n 1], none, 0⟩,
  ⟨2, .N .mv, [.c (.bool false)], none, 0⟩] := Eq.trans rfl rfl
theorem er51_1 (φ : Nat → Nat) : r51_1 φ = [
  ⟨0, .calli true (φ 38), [], none, 0⟩,
  ⟨1, .N .mv, [.l 0], none, 0⟩] := Eq.trans rfl rfl
theorem er51_2 (φ : Nat → Nat) : r51_2 φ = [
  ⟨0, .N (.loadN 2), [.n 2], none, 0⟩,
  ⟨1, .calli false (φ 39), [.l 0, .c (.int .i64 30)], none, 0⟩,
  ⟨2, .N (.alloc [.int .i64 0, .nils]), [], none, 0⟩,
  ⟨3, .X (.store 2), [.l 0, .l 1], none, 0⟩] := Eq.trans rfl rfl
theorem er51_3 (φ : Nat → Nat) : r51_3 φ = [
  ⟨0, .N (.fadd 0), [.n 6], none, 0⟩,
  ⟨1, .N .load1, [.l 0], none, 0⟩,
  ⟨2, .N (.bin .lss), [.l 0, .c (.int .i64 3)], none, 0⟩] := Eq.trans rfl rfl
theorem er51_4 (φ : Nat → Nat) : r51_4 φ = [
  ⟨0, .N .mv, [.n 5], none, 0⟩,
  ⟨1, .N .mv, [.l 0], none, 0⟩] := Eq.trans rfl rfl
theorem er51_5 (φ : Nat → Nat) : r51_5 φ = [
  ⟨0, .N (.idxA 3 1), [.n 3, .c (.int .i64 0)], none, 0⟩,
  ⟨1, .N .load1, [.l 0], none, 0⟩,
  ⟨2, .N (.bin .and), [.l 0, .c (.int .i64 65535)], none, 0⟩,
  ⟨3, .N (.fadd 0), [.n 6], none, 0⟩,
  ⟨4, .N .load1, [.l 0], none, 0⟩,
  ⟨5, .N (.bin .rem), [.l 2, .l 0], none, 0⟩,
  ⟨6, .N (.bsl [.int .i64 0] 3 1 [(0, 1), (1, 1), (2, 1)]), [.l 0, .c (.int .i64 0), .c (.int .i64 0)], none, 0⟩,
  ⟨7, .N .mv, [.l 0], none, 0⟩] := Eq.trans rfl rfl
theorem er51_6 (φ : Nat → Nat) : r51_6 φ = [
  ⟨0, .N .mv, [.n 7], none, 0⟩,
  ⟨1, .N .mv, [.n 7], none, 0⟩,
  ⟨2, .N (.idx 1), [.l 0, .c (.int .i64 0)], none, 2⟩,
  ⟨3, .N .load1, [.l 0], none, 6⟩,
  ⟨4, .N (.bin .add), [.l 0, .c (.int .i64 1)], none, 14⟩,
  ⟨5, .N (.idxA 3 1), [.n 3, .c (.int .i64 1)], none, 0⟩,
  ⟨6, .N .load1, [.l 0], none, 32⟩,
  ⟨7, .N (.bin .and), [.l 0, .c (.int .i64 65535)], none, 96⟩,
  ⟨8, .N (.fadd 0), [.n 6], none, 0⟩,
  ⟨9, .N .load1, [.l 0], none, 256⟩,
  ⟨10, .N (.bin .sub), [.l 0, .c (.int .i64 1)], none, 768⟩,
  ⟨11, .N (.bin .rem), [.l 3, .l 0], none, 2016⟩,
  ⟨12, .N (.bin .add), [.l 7, .l 0], none, 4094⟩,
  ⟨13, .N (.fadd 0), [.n 6], none, 0⟩,
  ⟨14, .N .load1, [.l 0], none, 8192⟩,
  ⟨15, .N (.bin .rem), [.l 2, .l 0], none, 32766⟩,
  ⟨16, .N (.idx 1), [.l 15, .c (.int .i64 1)], none, 65535⟩,
  ⟨17, .X (.store 1), [.l 0, .l 1], none, 131071⟩] := Eq.trans rfl rfl
theorem er51_7 (φ : Nat → Nat) : r51_7 φ = [
  ⟨0, .N .mv, [.n 7], none, 0⟩,
  ⟨1, .N (.idxA 3 1), [.n 3, .c (.int .i64 2)], none, 0⟩,
  ⟨2, .N .load1, [.l 0], none, 0⟩,
  ⟨3, .N (.bin .and), [.l 0, .c (.int .i64 65535)], none, 0⟩,
  ⟨4, .N (.fadd 0), [.n 6], none, 0⟩,
  ⟨5, .N .load1, [.l 0], none, 0⟩,
  ⟨6, .N (.bin .rem), [.l 2, .l 0], none, 0⟩,
  ⟨7, .N (.idx 1), [.l 6, .c (.int .i64 2)], none, 0⟩,
  ⟨8, .X (.store 1), [.l 0, .l 1], none, 0⟩] := Eq.trans rfl rfl
theorem er51_8 (φ : Nat → Nat) : r51_8 φ = [
  ⟨0, .N .mv, [.n 7], none, 0⟩,
  ⟨1, .N (.idx 1), [.l 0, .c (.int .i64 2)], none, 1⟩,
  ⟨2, .N .load1, [.l 0], none, 3⟩,
  ⟨3, .N .mv, [.n 7], none, 0⟩,
  ⟨4, .N (.idx 1), [.l 0, .c (.int .i64 0)], none, 8⟩,
  ⟨5, .N .load1, [.l 0], none, 24⟩,
  ⟨6, .N (.bin .eql), [.l 3, .l 0], none, 63⟩,
  ⟨7, .N .mv, [.l 0], none, 127⟩,
  ⟨8, .N .mv, [.n 7], some (.l 0, false), 255⟩,
  ⟨9, .N (.idx 1), [.l 0, .c (.int .i64 2)], some (.l 1, false), 511⟩,
  ⟨10, .N .load1, [.l 0], some (.l 2, false), 1023⟩,
  ⟨11, .N .mv, [.n 7], some (.l 3, false), 255⟩,
  ⟨12, .N (.idx 1), [.l 0, .c (.int .i64 1)], some (.l 4, false), 2303⟩,
  ⟨13, .N .load1, [.l 0], some (.l 5, false), 6399⟩,
  ⟨14, .N (.bin .eql), [.l 3, .l 0], some (.l 6, false), 16383⟩,
  ⟨15, .N .pick, [.l 7, .c (.bool true), .l 0], none, 32767⟩] := Eq.trans rfl rfl
theorem er51_9 (φ : Nat → Nat) : r51_9 φ = [
  ⟨0, .N .mv, [.n 7], none, 0⟩,
  ⟨1, .N .mv, [.n 7], none, 0⟩,
  ⟨2, .N (.idx 1), [.l 0, .c (.int .i64 2)], none, 2⟩,
  ⟨3, .N .load1, [.l 0], none, 6⟩,
  ⟨4, .N (.bin .add), [.l 0, .c (.int .i64 1)], none, 14⟩,
  ⟨5, .N (.fadd 0), [.n 6], none, 0⟩,
  ⟨6, .N .load1, [.l 0], none, 32⟩,
  ⟨7, .N (.bin .rem), [.l 2, .l 0], none, 126⟩,
  ⟨8, .N (.idx 1), [.l 7, .c (.int .i64 2)], none, 255⟩,
  ⟨9, .X (.store 1), [.l 0, .l 1], none, 511⟩] := Eq.trans rfl rfl
theorem er51_11 (φ : Nat → Nat) : r51_11 φ = [
  ⟨0, .N .mv, [.n 7], none, 0⟩,
  ⟨1, .calli false (φ 30), [.l 0], none, 0⟩,
  ⟨2, .N .mv, [.l 0], none, 0⟩] := Eq.trans rfl rfl
theorem er51_12 (φ : Nat → Nat) : r51_12 φ = [
  ⟨0, .N (.fadd 0), [.n 6], none, 0⟩,
  ⟨1, .N .load1, [.l 0], none, 1⟩,
  ⟨2, .N (.bsl [.int .i64 0, .int .i64 0] 0 2 []), [], none, 0⟩,
  ⟨3, .N (.fadd 1), [.n 6], none, 0⟩,
  ⟨4, .N .load1, [.l 0], none, 8⟩,
  ⟨6, .N .mv, [.n 7], none, 0⟩,
  ⟨7, .N (.idx 1), [.l 0, .c (.int .i64 0)], none, 32⟩,
  ⟨8, .N .load1, [.l 0], none, 96⟩,
  ⟨9, .N .mv, [.n 7], none, 0⟩,
  ⟨10, .N (.idx 1), [.l 0, .c (.int .i64 1)], none, 256⟩,
  ⟨11, .N .load1, [.l 0], none, 768⟩,
  ⟨12, .N (.build [.int .i64 0, .int .i64 0] [(0, 1), (1, 1)]), [.l 3, .l 0], none, 2016⟩,
  ⟨13, .N .mv, [.n 7], none, 0⟩,
  ⟨14, .N (.idx 1), [.l 0, .c (.int .i64 0)], none, 4096⟩,
  ⟨15, .N .load1, [.l 0], none, 12288⟩,
  ⟨16, .N .mv, [.n 7], none, 0⟩,
  ⟨17, .N (.idx 1), [.l 0, .c (.int .i64 2)], none, 32768⟩,
  ⟨18, .N .load1, [.l 0], none, 98304⟩,
  ⟨19, .N (.build [.int .i64 0, .int .i64 0] [(0, 1), (1, 1)]), [.l 3, .l 0], none, 258048⟩,
  ⟨20, .N .mv, [.n 7], none, 0⟩,
  ⟨21, .N (.idx 1), [.l 0, .c (.int .i64 1)], none, 524288⟩,
  ⟨22, .N .load1, [.l 0], none, 1572864⟩,
  ⟨23, .N .mv, [.n 7], none, 0⟩,
  ⟨24, .N (.idx 1), [.l 0, .c (.int .i64 2)], none, 4194304⟩,
  ⟨25, .N .load1, [.l 0], none, 12582912⟩,
  ⟨26, .N (.build [.int .i64 0, .int .i64 0] [(0, 1), (1, 1)]), [.l 3, .l 0], none, 33030144⟩,
  ⟨27, .N (.bsl [.int .i64 0, .int .i64 0] 3 2 [(0, 2), (2, 2), (4, 2)]), [.l 14, .l 7, .l 0], none, 67108832⟩,
  ⟨33, .N (.alloc [.int .i64 0, .nils]), [], none, 0⟩,
  ⟨5, .X (.app 2 16), [.l 25, .l 23], none, 28⟩,
  ⟨28, .X (.app 2 16), [.l 0, .l 2], none, 402653180⟩,
  ⟨29, .calli false (φ 2), [.l 28, .l 0], none, 939524095⟩,
  ⟨30, .N .mv, [.l 0], none, 2013265919⟩,
  ⟨31, .N (.ext 0), [.l 0], none, 4160749567⟩,
  ⟨32, .N (.ext 1), [.l 1], none, 4160749567⟩,
  ⟨34, .X (.store 2), [.l 6, .l 1], none, 8589934591⟩,
  ⟨35, .N .mv, [.l 1], none, 34359738367⟩] := Eq.trans rfl rfl
theorem er51_13 (φ : Nat → Nat) : r51_13 φ = [
  ⟨0, .N (.loadN 2), [.n 8], none, 0⟩,
  ⟨1, .N .mv, [.n 7], none, 0⟩,
  ⟨2, .N (.idx 1), [.l 0, .c (.int .i64 0)], none, 2⟩,
  ⟨3, .N .load1, [.l 0], none, 6⟩,
  ⟨4, .N .mv, [.n 7], none, 0⟩,
  ⟨5, .N (.idx 1), [.l 0, .c (.int .i64 1)], none, 16⟩,
  ⟨6, .N .load1, [.l 0], none, 48⟩,
  ⟨11, .N (.alloc [.int .i64 0, .nils]), [], none, 0⟩,
  ⟨7, .calli false (φ 45), [.l 7, .l 4, .l 1], none, 127⟩,
  ⟨8, .N .mv, [.l 0], none, 383⟩,
  ⟨9, .N (.ext 0), [.l 0], none, 895⟩,
  ⟨10, .N (.ext 1), [.l 1], none, 895⟩,
  ⟨12, .X (.store 2), [.l 4, .l 1], none, 2047⟩,
  ⟨13, .N .mv, [.l 1], none, 8191⟩] := Eq.trans rfl rfl
theorem er51_14 (φ : Nat → Nat) : r51_14 φ = [
  ⟨0, .N (.loadN 2), [.n 10], none, 0⟩,
  ⟨1, .N .mv, [.n 7], none, 0⟩,
  ⟨2, .N (.idx 1), [.l 0, .c (.int .i64 0)], none, 2⟩,
  ⟨3, .N .load1, [.l 0], none, 6⟩,
  ⟨4, .N .mv, [.n 7], none, 0⟩,
  ⟨5, .N (.idx 1), [.l 0, .c (.int .i64 2)], none, 16⟩,
  ⟨6, .N .load1, [.l 0], none, 48⟩,
  ⟨7, .N (.bin .sub), [.l 0, .c (.int .i64 1)], none, 112⟩,
  ⟨12, .N (.alloc [.int .i64 0, .nils]), [], none, 0⟩,
  ⟨8, .calli false (φ 45), [.l 8, .l 5, .l 1], none, 255⟩,
  ⟨9, .N .mv, [.l 0], none, 767⟩,
  ⟨10, .N (.ext 0), [.l 0], none, 1791⟩,
  ⟨11, .N (.ext 1), [.l 1], none, 1791⟩,
  ⟨13, .X (.store 2), [.l 4, .l 1], none, 4095⟩,
  ⟨14, .N .mv, [.l 1], none, 16383⟩] := Eq.trans rfl rfl
theorem er51_15 (φ : Nat → Nat) : r51_15 φ = [
  ⟨0, .N (.loadN 2), [.n 8], none, 0⟩,
  ⟨1, .N .mv, [.n 7], none, 0⟩,
  ⟨2, .N (.idx 1), [.l 0, .c (.int .i64 0)], none, 2⟩,
  ⟨3, .N .load1, [.l 0], none, 6⟩,
  ⟨4, .N .mv, [.n 7], none, 0⟩,
  ⟨5, .N (.idx 1), [.l 0, .c (.int .i64 2)], none, 16⟩,
  ⟨6, .N .load1, [.l 0], none, 48⟩,
  ⟨11, .N (.alloc [.int .i64 0, .nils]), [], none, 0⟩,
  ⟨7, .calli false (φ 45), [.l 7, .l 4, .l 1], none, 127⟩,
  ⟨8, .N .mv, [.l 0], none, 383⟩,
  ⟨9, .N (.ext 0), [.l 0], none, 895⟩,
  ⟨10, .N (.ext 1), [.l 1], none, 895⟩,
  ⟨12, .X (.store 2), [.l 4, .l 1], none, 2047⟩,
  ⟨13, .N .mv, [.l 1], none, 8191⟩] := Eq.trans rfl rfl
theorem er51_16 (φ : Nat → Nat) : r51_16 φ = [
  ⟨0, .N (.loadN 2), [.n 14], none, 0⟩,
  ⟨1, .N .mv, [.n 7], none, 0⟩,
  ⟨2, .N (.idx 1), [.l 0, .c (.int .i64 1)], none, 2⟩,
  ⟨3, .N .load1, [.l 0], none, 6⟩,
  ⟨4, .N .mv, [.n 7], none, 0⟩,
  ⟨5, .N (.idx 1), [.l 0, .c (.int .i64 0)], none, 16⟩,
  ⟨6, .N .load1, [.l 0], none, 48⟩,
  ⟨11, .N (.alloc [.int .i64 0, .nils]), [], none, 0⟩,
  ⟨7, .calli false (φ 45), [.l 7, .l 4, .l 1], none, 127⟩,
  ⟨8, .N .mv, [.l 0], none, 383⟩,
  ⟨9, .N (.ext 0), [.l 0], none, 895⟩,
  ⟨10, .N (.ext 1), [.l 1], none, 895⟩,
  ⟨12, .X (.store 2), [.l 4, .l 1], none, 2047⟩,
  ⟨13, .N .mv, [.l 1], none, 8191⟩] := Eq.trans rfl rfl
theorem er51_17 (φ : Nat → Nat) : r51_17 φ = [
  ⟨0, .N (.loadN 2), [.n 8], none, 0⟩,
  ⟨1, .N .mv, [.n 7], none, 0⟩,
  ⟨2, .N (.idx 1), [.l 0, .c (.int .i64 2)], none, 2⟩,
  ⟨3, .N .load1, [.l 0], none, 6⟩,
  ⟨4, .N .mv, [.n 7], none, 0⟩,
  ⟨5, .N (.idx 1), [.l 0, .c (.int .i64 1)], none, 16⟩,
  ⟨6, .N .load1, [.l 0], none, 48⟩,
  ⟨11, .N (.alloc [.int .i64 0, .nils]), [], none, 0⟩,
  ⟨7, .calli false (φ 45), [.l 7, .l 4, .l 1], none, 127⟩,
  ⟨8, .N .mv, [.l 0], none, 383⟩,
  ⟨9, .N (.ext 0), [.l 0], none, 895⟩,
  ⟨10, .N (.ext 1), [.l 1], none, 895⟩,
  ⟨12, .X (.store 2), [.l 4, .l 1], none, 2047⟩,
  ⟨13, .N .mv, [.l 1], none, 8191⟩] := Eq.trans rfl rfl
theorem er51_18 (φ : Nat → Nat) : r51_18 φ = [
  ⟨0, .N (.loadN 2), [.n 18], none, 0⟩,
  ⟨1, .N .mv, [.n 7], none, 0⟩,
  ⟨2, .N (.idx 1), [.l 0, .c (.int .i64 0)], none, 2⟩,
  ⟨3, .N .load1, [.l 0], none, 6⟩,
  ⟨4, .N .mv, [.n 7], none, 0⟩,
  ⟨5, .N (.idx 1), [.l 0, .c (.int .i64 1)], none, 16⟩,
  ⟨6, .N .load1, [.l 0], none, 48⟩,
  ⟨11, .N (.alloc [.int .i64 0, .nils]), [], none, 0⟩,
  ⟨7, .calli false (φ 45), [.l 7, .l 4, .l 1], none, 127⟩,
  ⟨8, .N .mv, [.l 0], none, 383⟩,
  ⟨9, .N (.ext 0), [.l 0], none, 895⟩,
  ⟨10, .N (.ext 1), [.l 1], none, 895⟩,
  ⟨12, .X (.store 2), [.l 4, .l 1], none, 2047⟩,
  ⟨13, .N .mv, [.l 1], none, 8191⟩] := Eq.trans rfl rfl
theorem er51_19 (φ : Nat → Nat) : r51_19 φ = [
  ⟨0, .N .mv, [.n 5], none, 0⟩,
  ⟨1, .N .mv, [.l 0], none, 0⟩,
  ⟨2, .N .mv, [.n 9], some (.l 0, true), 0⟩,
  ⟨3, .N (.bin .eql), [.l 0, .c (.int .i64 0)], some (.l 1, true), 0⟩,
  ⟨4, .N .pick, [.l 2, .l 0, .c (.bool false)], none, 0⟩,
  ⟨5, .N .mv, [.l 0], none, 0⟩,
  ⟨6, .N .mv, [.n 11], some (.l 0, true), 0⟩,
  ⟨7, .N (.bin .eql), [.l 0, .c (.int .i64 0)], some (.l 1, true), 0⟩,
  ⟨8, .N .pick, [.l 2, .l 0, .c (.bool false)], none, 0⟩,
  ⟨9, .N .mv, [.l 0], none, 0⟩,
  ⟨10, .N .mv, [.n 13], some (.l 0, true), 0⟩,
  ⟨11, .N (.bin .eql), [.l 0, .c (.int .i64 0)], some (.l 1, true), 0⟩,
  ⟨12, .N .pick, [.l 2, .l 0, .c (.bool false)], none, 0⟩,
  ⟨13, .N .mv, [.l 0], none, 0⟩,
  ⟨14, .N .mv, [.n 15], some (.l 0, true), 0⟩,
  ⟨15, .N (.bin .eql), [.l 0, .c (.int .i64 0)], some (.l 1, true), 0⟩,
  ⟨16, .N .pick, [.l 2, .l 0, .c (.bool false)], none, 0⟩,
  ⟨17, .N .mv, [.l 0], none, 0⟩,
  ⟨18, .N .mv, [.n 17], some (.l 0, true), 0⟩,
  ⟨19, .N (.bin .eql), [.l 0, .c (.int .i64 0)], some (.l 1, true), 0⟩,
  ⟨20, .N .pick, [.l 2, .l 0, .c (.bool false)], none, 0⟩,
  ⟨21, .N .mv, [.l 0], none, 0⟩,
  ⟨22, .N .mv, [.n 19], some (.l 0, true), 0⟩,
  ⟨23, .N (.bin .eql), [.l 0, .c (.int .i64 0)], some (.l 1, true), 0⟩,
  ⟨24, .N .pick, [.l 2, .l 0, .c (.bool false)], none, 0⟩,
  ⟨25, .N .mv, [.l 0], none, 0⟩,
  ⟨26, .N .mv, [.n 21], some (.l 0, true), 0⟩,
  ⟨27, .N (.bin .eql), [.l 0, .c (.int .i64 0)], some (.l 1, true), 0⟩,
  ⟨28, .N .pick, [.l 2, .l 0, .c (.bool false)], none, 0⟩,
  ⟨29, .N .mv, [.l 0], none, 0⟩,
  ⟨30, .N (.loadN 2), [.n 12], some (.l 0, true), 0⟩,
  ⟨31, .N (.loadN 2), [.n 16], some (.l 1, true), 0⟩,
  ⟨32, .calli true (φ 3), [.l 1, .l 0], some (.l 2, true), 0⟩,
  ⟨33, .N .pick, [.l 3, .l 0, .c (.bool false)], none, 0⟩,
  ⟨34, .N .mv, [.l 0], none, 0⟩,
  ⟨35, .N (.loadN 2), [.n 12], some (.l 0, true), 0⟩,
  ⟨36, .N (.loadN 2), [.n 20], some (.l 1, true), 0⟩,
  ⟨37, .calli true (φ 3), [.l 1, .l 0], some (.l 2, true), 0⟩,
  ⟨38, .N .pick, [.l 3, .l 0, .c (.bool false)], none, 0⟩,
  ⟨39, .N .mv, [.l 0], none, 0⟩] := Eq.trans rfl rfl
structure SR (A : AProg) (φ : Nat → Nat) : Prop where
  w : Go.Ai.G.SW A φ
  norm : NormalC A (φ 2)
  sorted : ∀ v xs, IsI v xs → xs.length < 1000000000000 → PVal A (φ 30) [v] (vI (sortI xs))
/-- How many steps on to a third vertex. -/
def stepsTo (N a b x : Int) : Nat := if x ≠ a ∧ x ≠ b then 0 else if (x + 1).tmod N ≠ a ∧ (x + 1).tmod N ≠ b then 1 else 2
theorem tmod_next {N x : Int} (h : 0 ≤ x ∧ x < N) : (x + 1).tmod N = if x + 1 = N then 0 else x + 1 := by
  rw [Int.tmod_eq_emod_of_nonneg (by omega)]
  by_cases e : x + 1 = N
  · rw [if_pos e, e, Int.emod_self]
  · rw [if_neg e, Int.emod_eq_of_lt (by omega) (by omega)]
theorem steps_lt {N a b x : Int} (hN : 3 ≤ N) (hab : a ≠ b) (ha : 0 ≤ a ∧ a < N) (hb : 0 ≤ b ∧ b < N) (hx : 0 ≤ x ∧ x < N) (h : x = a ∨ x = b) : stepsTo N a b ((x + 1).tmod N) < stepsTo N a b x ∧ 0 ≤ (x + 1).tmod N ∧ (x + 1).tmod N < N := by
  have e1 := tmod_next hx
  have hr : 0 ≤ (x + 1).tmod N ∧ (x + 1).tmod N < N := by rw [e1]; split <;> omega
  have e2 := tmod_next hr
  refine ⟨?_, hr⟩
  unfold stepsTo
  generalize (x + 1).tmod N = y at *
  rw [e2]
  split at e1 <;> split <;> split <;> (try split) <;> (try split) <;> omega
theorem tri_app {E : List Ed} {U : AV} (iE : IsE U E) (hE : E.length ≤ 100000) (D : Heap) (hD : D.length = 7) (P Q R : Int) (X6 : Ob) :
    ∃ r5 H1 r28 H2, xstep (.app 2 16) [.sl 4 0 0 0 2 0 true, U] D = some (r5, H1) ∧ H1[2]? = D[2]? ∧ 7 ≤ H1.length ∧
      xstep (.app 2 16) [r5, .sl 5 0 0 3 2 3 true] (((H1.set 6 X6).set 5 (.cells 0 false [.int .i64 P, .int .i64 Q, .int .i64 P, .int .i64 R, .int .i64 Q, .int .i64 R])).set 6 .dead) = some (r28, H2) ∧ H2[2]? = D[2]? ∧
      OwnE false 7 H2 r28 (E ++ [(P, Q), (P, R), (Q, R)]) ∧ 7 ≤ H2.length := by
  have h0 : Own false 7 D (.sl 4 0 0 0 2 0 true) 2 0 [] := .inl ⟨rfl, rfl, 4, 0, 0, rfl⟩
  obtain ⟨r5, H1, x1, x2, x3, x4, x5⟩ := Own.app (bytes := 16) h0 (iE.src _) (cellsE_length _) (ones_cE _) (by omega) (by omega)
  have k1 : ∀ b, b < D.length → H1[b]? = D[b]? := fun b hb => x3 b hb (by simp [blkOf])
  generalize hY : (Ob.cells 0 false [.int .i64 P, .int .i64 Q, .int .i64 P, .int .i64 R, .int .i64 Q, .int .i64 R]) = Y
  generalize hH1' : ((H1.set 6 X6).set 5 Y).set 6 .dead = H1'
  have l1 : H1'.length = H1.length := by rw [← hH1']; simp
  have g5 : H1'[5]? = some Y := by
    rw [← hH1', List.getElem?_set_ne (by omega)]; exact List.getElem?_set_self (by simp; omega)
  have g2 : H1'[2]? = D[2]? := by
    rw [← hH1', List.getElem?_set_ne (by omega), List.getElem?_set_ne (by omega), List.getElem?_set_ne (by omega), k1 2 (by omega)]
  have own5 : Own false 7 H1' r5 2 (0 + E.length) ([] ++ cellsE E) := x2.keep fun b hb hbe => by
    have := (Own.blk x2 hbe).1
    rw [← hH1', List.getElem?_set_ne (by omega), List.getElem?_set_ne (by omega), List.getElem?_set_ne (by omega)]
  have src1 : srcCells H1' 2 (.sl 5 0 0 3 2 3 true) = some (3, [.int .i64 P, .int .i64 Q, .int .i64 P, .int .i64 R, .int .i64 Q, .int .i64 R]) := by
    rw [← hY] at g5
    simp [srcCells, rdSl, g5]
  obtain ⟨r28, H2, y1, y2, y3, y4, y5⟩ := Own.app (bytes := 16) own5 src1 rfl rfl (by omega) (by omega)
  refine ⟨r5, H1, r28, H2, x1, k1 2 (by omega), by omega, by rw [hH1']; exact y1, ?_, ?_, by omega⟩
  · rw [y3 2 (by omega) (fun h => by have := (Own.blk own5 h).1; omega), g2]
  · have e2 : cellsE (E ++ [(P, Q), (P, R), (Q, R)]) = [] ++ cellsE E ++ [.int .i64 P, .int .i64 Q, .int .i64 P, .int .i64 R, .int .i64 Q, .int .i64 R] := by
      rw [cellsE_append]; simp [cellsE]
    have e1 : (E ++ [(P, Q), (P, R), (Q, R)]).length = 0 + E.length + 3 := by simp
    unfold OwnE
    rw [e1, e2]
    exact y2
set_option maxHeartbeats 4000000 in
theorem w_SubTriangle (h : Has A (φ 51) (f51 φ)) (hS : PVal A (φ 38) [] (.bool true)) (g : SR A φ) (n : Int) (v : AV) (l : List Ed) (hv : IsE v l) (a0 b0 c0 : Int) :
    PVal A (φ 51) [gV n v, .agg [.int .i64 a0, .int .i64 b0, .int .i64 c0]] (.bool true) := by
  have hsh := hS.eq
  have hone := hv.one
  have hcl := hv.closed
  have k0 := (g.w.l.s.of n 30 v l hv (by omega) (by omega)).eq
  have hR := any_right n l (most := 30) (by omega) (by omega)
  have hEl := anyE_len n 30 l
  have hNr := anyN_range (n := n) (most := 30) (by omega)
  generalize anyN n 30 = N at *
  generalize anyE n 30 l = E at *
  have iE := isE_r E
  refine pval_has h rfl ?_
  simp only [l51_10, b51, f51]
  by_cases h3 : N < 3
  · generalize rE E = U at *
    simp [-List.getD_eq_getElem?_getD, -Int.ofNat_toNat, -getElem?_pos, er51_0, er51_1, er51_2, er51_3, er51_4, er51_5, er51_6, er51_7, er51_8, er51_9, er51_11, er51_12, er51_13, er51_14, er51_15, er51_16, er51_17, er51_18, er51_19, hsh, hone, hcl, k0, iE.closed, iE.one, iE.cells, h3, resK, resVs, resV, pack]
  · have hN0 : N ≠ 0 := by omega
    have hN1 : N - 1 ≠ 0 := by omega
    have r1 : binV .rem (.int .i64 (a0 % 65536)) (.int .i64 N) = some (.int .i64 ((a0 % 65536).tmod N)) := b_rem _ _ _ hN0
    have r2 : binV .rem (.int .i64 (b0 % 65536)) (.int .i64 (N - 1)) = some (.int .i64 ((b0 % 65536).tmod (N - 1))) := b_rem _ _ _ hN1
    have r3 : binV .rem (.int .i64 (c0 % 65536)) (.int .i64 N) = some (.int .i64 ((c0 % 65536).tmod N)) := b_rem _ _ _ hN0
    have tr : ∀ x M : Int, 0 < M → 0 ≤ (x % 65536).tmod M ∧ (x % 65536).tmod M < M := fun x M hM => by
      rw [Int.tmod_eq_emod_of_nonneg (Int.emod_nonneg _ (by decide))]
      exact ⟨Int.emod_nonneg _ (by omega), Int.emod_lt_of_pos _ hM⟩
    have ra := tr a0 N (by omega)
    have rt := tr b0 (N - 1) (by omega)
    have rc := tr c0 N (by omega)
    generalize (a0 % 65536).tmod N = a at *
    generalize (b0 % 65536).tmod (N - 1) = t at *
    generalize (c0 % 65536).tmod N = c at *
    have r4 : binV .rem (.int .i64 (a + 1 + t)) (.int .i64 N) = some (.int .i64 ((a + 1 + t).tmod N)) := b_rem _ _ _ hN0
    obtain ⟨rb1, rb2, hab⟩ := next_ne ra rt
    generalize (a + 1 + t).tmod N = b at *
    have w1 : IntKind.i64.wrap (a + 1) = a + 1 := wrap_in (by omega) (by omega)
    have w2 : IntKind.i64.wrap (a + 1 + t) = a + 1 + t := wrap_in (by omega) (by omega)
    have w3 : IntKind.i64.wrap (N - 1) = N - 1 := wrap_in (by omega) (by omega)
    generalize hUe : rE E = U at *
    have hs1 : ∀ x y z w : AV, setAt [x, y, z] 1 [w] = [x, w, z] := fun _ _ _ _ => rfl
    have hs2 : ∀ x y z w : AV, setAt [x, y, z] 2 [w] = [x, y, w] := fun _ _ _ _ => rfl
    simp [-List.getD_eq_getElem?_getD, -Int.ofNat_toNat, -getElem?_pos, er51_0, er51_1, er51_2, er51_3, er51_4, er51_5, er51_6, er51_7, er51_8, er51_9, er51_11, er51_12, er51_13, er51_14, er51_15, er51_16, er51_17, er51_18, er51_19, hsh, hone, hcl, k0, iE.closed, iE.one, iE.cells, h3, r1, r2, r3, r4, w1, w2, w3, PDX_eq, hs1, hs2]
    refine pc_loopI (fun m st => ∃ (x : Int) (p23 : AV), m = stepsTo N a b x ∧ (0 ≤ x ∧ x < N) ∧
      st = ([gV n v, .agg [.int .i64 a0, .int .i64 b0, .int .i64 c0], .ptr 0 0 0, .ptr 1 0 0, .bool false, .bool true, .ptr 2 0 0, .sl 3 0 0 3 1 3 true, .un, .un, .un, .un, .un, .un, .un, .un, .un, .un, .un, .un, .un, .un, .bool false, p23],
        [.cells 0 false [.int .i64 n, v], .cells 0 false [.int .i64 a0, .int .i64 b0, .int .i64 c0], .cells 0 false [.int .i64 N, U], .cells 0 false [.int .i64 a, .int .i64 b, .int .i64 x]])) (stepsTo N a b c)
      ⟨c, _, rfl, rc, rfl⟩ ?_
    rintro m st ⟨x, p23, rfl, hx, rfl⟩
    have r5 : binV .rem (.int .i64 (x + 1)) (.int .i64 N) = some (.int .i64 ((x + 1).tmod N)) := b_rem _ _ _ hN0
    have w4 : IntKind.i64.wrap (x + 1) = x + 1 := wrap_in (by omega) (by omega)
    by_cases q : x = a ∨ x = b
    · obtain ⟨d1, d2⟩ := steps_lt (by omega) hab ra ⟨rb1, rb2⟩ hx q
      have fin : ∀ p : AV, nextC (fun m st => ∃ (x : Int) (p23 : AV), m = stepsTo N a b x ∧ (0 ≤ x ∧ x < N) ∧
        st = ([gV n v, .agg [.int .i64 a0, .int .i64 b0, .int .i64 c0], .ptr 0 0 0, .ptr 1 0 0, .bool false, .bool true, .ptr 2 0 0, .sl 3 0 0 3 1 3 true, .un, .un, .un, .un, .un, .un, .un, .un, .un, .un, .un, .un, .un, .un, .bool false, p23],
          [.cells 0 false [.int .i64 n, v], .cells 0 false [.int .i64 a0, .int .i64 b0, .int .i64 c0], .cells 0 false [.int .i64 N, U], .cells 0 false [.int .i64 a, .int .i64 b, .int .i64 x]])) () (stepsTo N a b x)
          ([gV n v, .agg [.int .i64 a0, .int .i64 b0, .int .i64 c0], .ptr 0 0 0, .ptr 1 0 0, .bool false, .bool true, .ptr 2 0 0, .sl 3 0 0 3 1 3 true, .un, .un, .un, .un, .un, .un, .un, .un, .un, .un, .un, .un, .un, .un, .bool false, p],
          [.cells 0 false [.int .i64 n, v], .cells 0 false [.int .i64 a0, .int .i64 b0, .int .i64 c0], .cells 0 false [.int .i64 N, U], .cells 0 false [.int .i64 a, .int .i64 b, .int .i64 ((x + 1).tmod N)]]) :=
        fun p => next_mk (stepsTo N a b ((x + 1).tmod N)) d1 ⟨_, _, rfl, d2, rfl⟩
      by_cases q1 : x = a
      · simp only [q1] at fin r5 w4
        simp [-List.getD_eq_getElem?_getD, -Int.ofNat_toNat, -getElem?_pos, er51_0, er51_1, er51_2, er51_3, er51_4, er51_5, er51_6, er51_7, er51_8, er51_9, er51_11, er51_12, er51_13, er51_14, er51_15, er51_16, er51_17, er51_18, er51_19, q1, r5, w4, PDX_eq, hs1, hs2]
        exact fin _
      · have q2 : x = b := by rcases q with q | q; · exact absurd q q1
                              · exact q
        have q3 : ¬ b = a := fun h => hab h.symm
        simp only [q2] at fin r5 w4
        simp [-List.getD_eq_getElem?_getD, -Int.ofNat_toNat, -getElem?_pos, er51_0, er51_1, er51_2, er51_3, er51_4, er51_5, er51_6, er51_7, er51_8, er51_9, er51_11, er51_12, er51_13, er51_14, er51_15, er51_16, er51_17, er51_18, er51_19, q2, q3, r5, w4, PDX_eq, hs1, hs2]
        exact fin _
    · obtain ⟨q1, q2⟩ : ¬ x = a ∧ ¬ x = b := ⟨fun h => q (.inl h), fun h => q (.inr h)⟩
      obtain ⟨P, Q, R, hsort, hPQ, hQR, hall⟩ := sort3 (a := a) (b := b) (c := x) hab (fun h => q1 h.symm) (fun h => q2 h.symm)
      have k1 := (g.sorted (vI [a, b, x]) [a, b, x] (isI_v _) (by simp)).eq
      rw [hsort] at k1
      have rP : 0 ≤ P := by rcases hall P (.inl rfl) with h | h | h <;> omega
      have rR : R < N := by rcases hall R (.inr (.inr rfl)) with h | h | h <;> omega
      have va : viewA [.cells 0 false [.int .i64 n, v], .cells 0 false [.int .i64 a0, .int .i64 b0, .int .i64 c0], .cells 0 false [.int .i64 N, U], .cells 0 false [.int .i64 a, .int .i64 b, .int .i64 x]] [.sl 3 0 0 3 1 3 true] =
          some ([vI [a, b, x]], [.cells 0 false [.int .i64 n, v], .cells 0 false [.int .i64 a0, .int .i64 b0, .int .i64 c0], .cells 0 false [.int .i64 N, U], .cells 0 true [.int .i64 a, .int .i64 b, .int .i64 x]]) := by
        have own : Own false 0 ([.cells 0 false [.int .i64 n, v], .cells 0 false [.int .i64 a0, .int .i64 b0, .int .i64 c0], .cells 0 false [.int .i64 N, U], .cells 0 false [.int .i64 a, .int .i64 b, .int .i64 x]] : Heap) (.sl 3 0 0 3 1 3 true) 1 3 (cI [a, b, x]) := own_new (Nat.zero_le _) rfl rfl (fun _ => rfl)
        exact (Own.vw own).l1 (closeds_cI _)
      have iS := isI_v [P, Q, R]
      obtain ⟨s0, t0⟩ := iS.at (i := 0) (by simp)
      obtain ⟨s1, t1⟩ := iS.at (i := 1) (by simp)
      obtain ⟨s2, t2⟩ := iS.at (i := 2) (by simp)
      simp only [List.getElem_cons_zero, List.getElem_cons_succ] at t0 t1 t2
      have s0' : ∀ kk rd, nstep (.idx 1) [vI [P, Q, R], .int kk 0] rd = some (.val (.vp (cI [P, Q, R]) 0)) := s0
      have s1' : ∀ kk rd, nstep (.idx 1) [vI [P, Q, R], .int kk 1] rd = some (.val (.vp (cI [P, Q, R]) 1)) := s1
      have s2' : ∀ kk rd, nstep (.idx 1) [vI [P, Q, R], .int kk 2] rd = some (.val (.vp (cI [P, Q, R]) 2)) := s2
      generalize hS3 : vI [P, Q, R] = S3 at *
      generalize hC3 : cI [P, Q, R] = C3 at *
      obtain ⟨r5, H1, r28, H2, y1, y2, l7, y3, y4, y5, y6⟩ := tri_app iE (by omega) [.cells 0 false [.int .i64 n, v], .cells 0 false [.int .i64 a0, .int .i64 b0, .int .i64 c0], .cells 0 false [.int .i64 N, U], .cells 0 true [.int .i64 a, .int .i64 b, .int .i64 x], .cells 0 false [], .dead, .dead] rfl P Q R (.cells 0 false [.int .i64 0, .nils])
      have y2' : H1[2]? = some (.cells 0 false [.int .i64 N, U]) := y2
      have y4' : H2[2]? = some (.cells 0 false [.int .i64 N, U]) := y4
      have hgx : ∀ a b c d e f g : Ob, ([a, b, c, d, e, f, g] : Heap).getD 6 .dead = g ∧ ([a, b, c, d, e, f, g] : Heap).getD 5 .dead = f := fun _ _ _ _ _ _ _ => ⟨rfl, rfl⟩
      simp [-List.getD_eq_getElem?_getD, -Int.ofNat_toNat, -getElem?_pos, er51_0, er51_1, er51_2, er51_3, er51_4, er51_5, er51_6, er51_7, er51_8, er51_9, er51_11, er51_12, er51_13, er51_14, er51_15, er51_16, er51_17, er51_18, er51_19, q1, q2, va, k1, PDX_eq, s0', s1', s2', t0, t1, t2, y1, y2', hgx]
      have hg1 : ((H1.set 6 (.cells 0 false [.int .i64 0, .nils])).set 5 (.cells 0 false [.int .i64 P, .int .i64 Q, .int .i64 P, .int .i64 R, .int .i64 Q, .int .i64 R])).getD 6 .dead = .cells 0 false [.int .i64 0, .nils] := by
        rw [List.getD_eq_getElem?_getD, List.getElem?_set_ne (by omega), List.getElem?_set_self (by omega)]; rfl
      have hg2 : ∀ z, (H2.set 6 z).getD 6 .dead = z := fun z => by
        rw [List.getD_eq_getElem?_getD, List.getElem?_set_self (by omega)]; rfl
      have own : OwnE false 7 (H2.set 6 .dead) r28 (E ++ [(P, Q), (P, R), (Q, R)]) := Own.keep y5 fun b hb hbe => List.getElem?_set_ne (by have := (Own.blk y5 hbe).1; omega)
      have va2 := (Own.vw own).r2 (closeds_cE _) (.int .i64 N) rfl
      have hbo : ∀ b, blkOf r28 = some b → 7 ≤ b := fun b hb => (Own.blk own hb).1
      have hF : ∀ b, b < 7 → (frzOf (H2.set 6 .dead) r28)[b]? = (H2.set 6 .dead)[b]? := fun b hb => frzOf_get _ _ (fun h => by have := hbo b h; omega)
      have f2 : (frzOf (H2.set 6 .dead) r28)[2]? = some (.cells 0 false [.int .i64 N, U]) := by
        rw [hF 2 (by omega), List.getElem?_set_ne (by omega)]; exact y4'
      have fl : (frzOf (H2.set 6 .dead) r28).length = H2.length := by rw [frzOf_len]; simp
      have iN : IsE (rv false (E ++ [(P, Q), (P, R), (Q, R)]).length 2 (cellsE (E ++ [(P, Q), (P, R), (Q, R)]))) (E ++ [(P, Q), (P, R), (Q, R)]) := is_rv (cellsE_length _) (closeds_cE _)
      have cN := (g.norm N _ _ iN (by simp; omega)).eq
      have hends := right_ends hR
      have hok : (E ++ [(P, Q), (P, R), (Q, R)]).all (okEnds N) = true := by
        rw [List.all_eq_true]
        intro y hy
        rcases List.mem_append.1 hy with hy | hy
        · have := hends y hy
          rw [okEnds, decide_eq_true (by omega), decide_eq_true (by omega)]; rfl
        · simp only [List.mem_cons, List.not_mem_nil, or_false] at hy
          rcases hy with rfl | rfl | rfl <;> (rw [okEnds, decide_eq_true (by simp only; omega), decide_eq_true (by simp only; omega)]; rfl)
      have hle := setE_le (E ++ [(P, Q), (P, R), (Q, R)])
      have hno := normalE_ok (n := N) (by omega) (by omega) hok (by simp at hle; omega)
      have hRX : rightE N (setE (E ++ [(P, Q), (P, R), (Q, R)])) = true := by
        have := @normalE_right N (E ++ [(P, Q), (P, R), (Q, R)])
        rw [hno] at this
        exact this rfl
      have hmX : ∀ p q : Int, p < q → (p, q) ∈ [(P, Q), (P, R), (Q, R)] → (p, q) ∈ setE (E ++ [(P, Q), (P, R), (Q, R)]) := fun p q hpq hm => by
        rw [setE_mem, normsE_mem]
        exact ⟨(p, q), List.mem_append_right _ hm, by simp only; omega, by simp only; rw [Int.min_eq_left (by omega), Int.max_eq_right (by omega)]⟩
      obtain ⟨X1, X2, X3, Z, t1', t2', t3', t4', t5', t6'⟩ := tri_law hRX (p := P) (q := Q) (r := R) (by omega) (hmX _ _ hPQ (by simp)) (hmX _ _ (by omega) (by simp)) (hmX _ _ hQR (by simp))
      simp only [nR, hno] at cN
      generalize setE (E ++ [(P, Q), (P, R), (Q, R)]) = XE at *
      have iX := isE_r XE
      have i1 := isE_r X1
      have i2 := isE_r X2
      have i3 := isE_r X3
      have iZ := isE_r Z
      have d1 := (g.w.con N P Q _ XE iX).eq
      have d2 := (g.w.con (N - 1) P (R - 1) _ X1 i1).eq
      have d3 := (g.w.con N P R _ XE iX).eq
      have d4 := (g.w.con (N - 1) Q P _ X2 i2).eq
      have d5 := (g.w.con N R Q _ XE iX).eq
      have d6 := (g.w.con (N - 1) P Q _ X3 i3).eq
      rw [t1'] at d1
      rw [t2'] at d2
      rw [t3'] at d3
      rw [t4'] at d4
      rw [t5'] at d5
      rw [t6'] at d6
      simp only [gR] at d1 d2 d3 d4 d5 d6
      have hZl : Z.length ≤ 4000 := by
        have := contract_len (N - 1) X1 P (R - 1)
        rw [t2'] at this; exact this
      have cS := (g.w.l.s.sameG (N - 1 - 1) (N - 1 - 1) _ _ _ _ iZ iZ (by omega)).eq
      generalize rE XE = uX at *
      generalize rE X1 = u1 at *
      generalize rE X2 = u2 at *
      generalize rE X3 = u3 at *
      generalize rE Z = uZ at *
      generalize frzOf (H2.set 6 .dead) r28 = F at *
      generalize rv false (E ++ [(P, Q), (P, R), (Q, R)]).length 2 (cellsE (E ++ [(P, Q), (P, R), (Q, R)])) = uN at *
      have hset : ∀ z, (F.set 6 z)[6]? = some z := fun z => List.getElem?_set_self (by omega)
      have w5 : IntKind.i64.wrap (R - 1) = R - 1 := wrap_in (by omega) (by omega)
      simp [-List.getD_eq_getElem?_getD, -Int.ofNat_toNat, -getElem?_pos, er51_0, er51_1, er51_2, er51_3, er51_4, er51_5, er51_6, er51_7, er51_8, er51_9, er51_11, er51_12, er51_13, er51_14, er51_15, er51_16, er51_17, er51_18, er51_19, PDX_eq, y2', y3, y4', hg1, hg2, va2, cN, f2, hset, iX.one, iX.cells, iX.closed]
      have hG6 := hset (.cells 0 false [.int .i64 N, uX])
      generalize F.set 6 (.cells 0 false [.int .i64 N, uX]) = G at *
      have hGJ : ∀ J, (G ++ J)[6]? = some (.cells 0 false [.int .i64 N, uX]) := fun J => get_more J hG6
      have gd0 : ∀ J : Heap, (G ++ J).getD G.length .dead = J.getD 0 .dead := fun J => by
        rw [List.getD_eq_getElem?_getD, List.getD_eq_getElem?_getD, List.getElem?_append_right (by omega)]; simp
      have gd1 : ∀ (J : Heap) (k : Nat), (G ++ J).getD (G.length + k) .dead = J.getD k .dead := fun J k => by
        rw [List.getD_eq_getElem?_getD, List.getD_eq_getElem?_getD, List.getElem?_append_right (by omega)]; simp
      have gz0 : ∀ (a : Ob) (l : Heap), (a :: l).getD 0 .dead = a := fun _ _ => rfl
      have gz1 : ∀ (a b : Ob) (l : Heap), (a :: b :: l).getD 1 .dead = b := fun _ _ _ => rfl
      have gz2 : ∀ (a b c : Ob) (l : Heap), (a :: b :: c :: l).getD 2 .dead = c := fun _ _ _ _ => rfl
      have gz3 : ∀ (a b c d : Ob) (l : Heap), (a :: b :: c :: d :: l).getD 3 .dead = d := fun _ _ _ _ _ => rfl
      have gz4 : ∀ (a b c d e : Ob) (l : Heap), (a :: b :: c :: d :: e :: l).getD 4 .dead = e := fun _ _ _ _ _ _ => rfl
      have gz5 : ∀ (a b c d e f : Ob) (l : Heap), (a :: b :: c :: d :: e :: f :: l).getD 5 .dead = f := fun _ _ _ _ _ _ _ => rfl
      simp [-List.getD_eq_getElem?_getD, -Int.ofNat_toNat, -getElem?_pos, er51_0, er51_1, er51_2, er51_3, er51_4, er51_5, er51_6, er51_7, er51_8, er51_9, er51_11, er51_12, er51_13, er51_14, er51_15, er51_16, er51_17, er51_18, er51_19, PDX_eq, s0', s1', s2', t0, t1, t2, hG6, hGJ, gd0, gd1, gz0, gz1, gz2, gz3, gz4, gz5, get_at, get_at0, set_at, set_at0, d1, d2, d3, d4, d5, d6, w3, w5, cS, iX.one, iX.cells, iX.closed, i1.one, i1.cells, i1.closed, i2.one, i2.cells, i2.closed, i3.one, i3.cells, i3.closed, iZ.one, iZ.cells, iZ.closed, resK, resVs, resV, pack]
end Go.Ai.G
