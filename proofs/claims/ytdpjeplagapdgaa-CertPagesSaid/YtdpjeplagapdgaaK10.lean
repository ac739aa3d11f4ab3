/- A part of what the law leans on: the abstract machine, the contracts, the rows. -/
import Derived.Test.YtdpjeplagapdgaaK9
/- CertPages. -/
namespace Go.Ai.G
open Go.Ai
set_option maxRecDepth 100000
set_option linter.unusedSimpArgs false
set_option linter.unusedVariables false
variable {A : AProg} {φ : Nat → Nat}
attribute [local simp ↓] getD_z getD_s hid_k hid_o hid_q hid_v PO_nil PO_none PO_grd PD_nil PD_none PD_grd PDO_N PDO_X PDO_call PDO_calli PDO_callv PSX_N PSX_X PSX_call PSX_calli PSX_callv PSX_inv
  PSX_callp PSX_panic PDO_inv PStep_inv thenC_pan blockC_pan loopC_pan endX_ret endX_norm endX_pan PStep_N PStep_X PStep_call PStep_calli PC_skip PC_lab PC_ret PC_exit PC_reg PC_draw
  PC_seq PC_block PC_loop PC_scope PC_cond thenC_norm thenC_ret thenC_exit blockC_norm blockC_ret blockC_exit loopC_norm loopC_ret loopC_exit endR_ret endR_norm
attribute [local simp] gz PDX_free PDX_eq KI_some n_mki n_tas0 n_tasf PStep_callv resK_none resK_t resK_tt KNO_val KNO_new KNO_ite KNO_map KXO_some KXO_ite KVA_t KVA_f KG_skip KG_tt KG_ff KG_tf KG_ft
  KB_true KB_false KNOD_val KNOD_new KNOD_ite n_mv n_pick n_bin n_eqB n_eqN n_eqS n_un n_conv n_fadd n_faddV n_fld1 n_fldN n_idx n_idxA n_idxV n_idxAV n_ext n_lenS n_lenS0 n_lenV
  n_lenT n_lenA n_min n_max n_build n_mkfn n_slc n_slc0 n_slcV n_slcA n_load1 n_loadN n_load1V n_loadNV n_alloc n_box n_bsl n_mksl n_nilcP n_nilcV n_nilcI n_nilcF x_store x_clear0
  x_clear b_add b_sub b_mul b_eql b_neq b_lss b_leq b_gtr b_geq b_and16 unV ntouch gather hide unhide evalOpd applyOuts int_bne int_beq ite_bool ite_int one_bool cells_bool one_int
  cells_int one_str cells_str one_nilp cells_nilp one_ptr cells_ptr one_nils cells_nils one_sl cells_sl one_nilf cells_nilf one_fn cells_fn one_nili cells_nili one_mp cells_mp
  one_nilm cells_nilm one_iface cells_iface one_vs cells_vs one_vp cells_vp cells_agg Nat.testBit setAt_1 setAt_2 closeds_nil closeds_cons closed_bool closed_int closed_str
  closed_nilp closed_nils closed_nilm closed_nilf closed_nili closed_agg closed_tup closed_vs closed_vp closed_iface closed_fn closeds_cI closeds_cE viewA_closed viewR_closed AV.scal
  AV.scal0 fillA repA part_bool part_int part_str part_nilp part_ptr part_nils part_sl part_nilm part_mp part_nilf part_fn part_nili part_iface part_agg part_vs part_vp viewA_sl1
  vaSl_cells wrap_0 wrap_1 wrap_2 wrap_m1 set_last get_last
theorem er104_0 (φ : Nat → Nat) : r104_0 φ = [
  ⟨0, .N .mv, [.c (.bool false)], none, 0⟩] := Eq.trans rfl rfl
theorem er104_1 (φ : Nat → Nat) : r104_1 φ = [
  ⟨0, .calli true (φ 84), [], none, 0⟩,
  ⟨1, .N .mv, [.l 0], none, 0⟩] := Eq.trans rfl rfl
theorem er104_2 (φ : Nat → Nat) : r104_2 φ = [
  ⟨0, .N .mv, [.c (.nils)], none, 0⟩] := Eq.trans rfl rfl
theorem er104_3 (φ : Nat → Nat) : r104_3 φ = [
  ⟨0, .N .mv, [.c (.int .i64 0)], none, 0⟩] := Eq.trans rfl rfl
theorem er104_4 (φ : Nat → Nat) : r104_4 φ = [
  ⟨0, .N .mv, [.n 6], none, 0⟩,
  ⟨1, .N .mv, [.n 2], none, 0⟩,
  ⟨2, .N .lenS, [.l 0], none, 0⟩,
  ⟨3, .N (.bin .lss), [.l 2, .l 0], none, 0⟩,
  ⟨4, .N .mv, [.l 0], none, 0⟩,
  ⟨5, .N .mv, [.n 6], some (.l 0, true), 0⟩,
  ⟨6, .N (.bin .lss), [.l 0, .c (.int .i64 11)], some (.l 1, true), 0⟩,
  ⟨7, .N .pick, [.l 2, .l 0, .c (.bool false)], none, 0⟩] := Eq.trans rfl rfl
theorem er104_5 (φ : Nat → Nat) : r104_5 φ = [
  ⟨0, .N .mv, [.n 5], none, 0⟩,
  ⟨1, .N (.bsl [.int .i64 0] 0 1 []), [], none, 0⟩,
  ⟨2, .N .mv, [.n 2], none, 0⟩,
  ⟨3, .N .mv, [.n 6], none, 0⟩,
  ⟨4, .N (.idx 1), [.l 1, .l 0], none, 12⟩,
  ⟨5, .N .load1, [.l 0], none, 28⟩,
  ⟨6, .N .mv, [.n 2], none, 0⟩,
  ⟨7, .N .mv, [.n 6], none, 0⟩,
  ⟨8, .N (.idx 1), [.l 1, .l 0], none, 192⟩,
  ⟨9, .N .load1, [.l 0], none, 448⟩,
  ⟨10, .N .lenS, [.l 0], none, 960⟩,
  ⟨11, .N .min, [.l 0, .c (.int .i64 30)], none, 1984⟩,
  ⟨12, .N (.slc 1 false true false), [.l 6, .l 0], none, 4092⟩,
  ⟨13, .X (.app 1 8), [.l 11, .l 0], none, 8190⟩,
  ⟨14, .N (.bsl [.nils] 1 1 [(0, 1)]), [.l 0], none, 16382⟩,
  ⟨15, .X (.app 1 24), [.l 14, .l 0], none, 32767⟩,
  ⟨16, .N .mv, [.l 0], none, 65535⟩] := Eq.trans rfl rfl
theorem er104_6 (φ : Nat → Nat) : r104_6 φ = [
  ⟨0, .N .mv, [.n 6], none, 0⟩,
  ⟨1, .N (.bin .add), [.l 0, .c (.int .i64 1)], none, 0⟩,
  ⟨2, .N .mv, [.l 0], none, 0⟩] := Eq.trans rfl rfl
theorem er104_8 (φ : Nat → Nat) : r104_8 φ = [
  ⟨0, .N .mv, [.c (.nils)], none, 0⟩] := Eq.trans rfl rfl
theorem er104_9 (φ : Nat → Nat) : r104_9 φ = [
  ⟨0, .N .mv, [.n 5], none, 0⟩,
  ⟨1, .N .lenS, [.l 0], none, 0⟩,
  ⟨2, .N (.bin .gtr), [.l 0, .c (.int .i64 0)], none, 0⟩] := Eq.trans rfl rfl
theorem er104_10 (φ : Nat → Nat) : r104_10 φ = [
  ⟨0, .N .mv, [.n 5], none, 0⟩,
  ⟨1, .N (.idx 1), [.l 0, .c (.int .i64 0)], none, 0⟩,
  ⟨2, .N .load1, [.l 0], none, 0⟩,
  ⟨3, .N .mv, [.l 0], none, 0⟩] := Eq.trans rfl rfl
theorem er104_11 (φ : Nat → Nat) : r104_11 φ = [
  ⟨0, .N .mv, [.n 5], none, 0⟩,
  ⟨1, .N (.slc 1 true false false), [.l 0, .c (.int .i64 1)], none, 0⟩,
  ⟨2, .N .mv, [.l 0], none, 0⟩] := Eq.trans rfl rfl
theorem er104_12 (φ : Nat → Nat) : r104_12 φ = [
  ⟨0, .N .mv, [.n 7], none, 0⟩,
  ⟨1, .N .mv, [.n 5], none, 0⟩,
  ⟨2, .N (.build [.nils, .nils] [(0, 1), (1, 1)]), [.l 1, .l 0], none, 0⟩,
  ⟨3, .N (.mki (φ 93)), [.l 0], none, 0⟩,
  ⟨4, .calli false (φ 99), [.l 0], none, 0⟩,
  ⟨5, .N .mv, [.l 0], none, 0⟩] := Eq.trans rfl rfl
theorem er104_13 (φ : Nat → Nat) : r104_13 φ = [
  ⟨0, .N .mv, [.n 7], none, 0⟩,
  ⟨1, .N (.build [.nils] [(0, 1)]), [.l 0], none, 0⟩,
  ⟨2, .N (.mki (φ 97)), [.l 0], none, 0⟩,
  ⟨3, .calli false (φ 99), [.l 0], none, 0⟩,
  ⟨4, .N .mv, [.l 0], none, 0⟩] := Eq.trans rfl rfl
theorem er104_14 (φ : Nat → Nat) : r104_14 φ = [
  ⟨0, .N .mv, [.n 0], none, 0⟩,
  ⟨1, .N .mv, [.n 1], none, 0⟩,
  ⟨2, .N .mv, [.n 7], none, 0⟩,
  ⟨3, .N (.build [.int .i64 0, .int .i64 0, .nils] [(0, 1), (1, 1), (2, 1)]), [.l 2, .l 1, .l 0], none, 0⟩,
  ⟨4, .N (.mki (φ 89)), [.l 0], none, 0⟩,
  ⟨5, .calli false (φ 99), [.l 0], none, 0⟩,
  ⟨6, .N .mv, [.l 0], none, 0⟩] := Eq.trans rfl rfl
theorem er104_15 (φ : Nat → Nat) : r104_15 φ = [
  ⟨0, .N .mv, [.n 8], none, 0⟩,
  ⟨1, .N (.bsl [.int .i64 0] 1 1 [(0, 1)]), [.c (.int .i64 1)], none, 0⟩,
  ⟨2, .N .mv, [.n 7], none, 0⟩,
  ⟨3, .calli false (φ 101), [.l 0], none, 0⟩,
  ⟨4, .X (.app 1 8), [.l 2, .l 0], none, 0⟩,
  ⟨5, .N .mv, [.n 5], none, 0⟩,
  ⟨6, .calli false (φ 102), [.l 0], none, 0⟩,
  ⟨7, .X (.app 1 8), [.l 2, .l 0], none, 0⟩,
  ⟨8, .calli true (φ 11), [.l 7, .l 0], none, 0⟩,
  ⟨9, .N (.un .not), [.l 0], none, 0⟩,
  ⟨10, .N .mv, [.l 0], none, 0⟩,
  ⟨11, .N .mv, [.n 9], some (.l 0, false), 0⟩,
  ⟨12, .N (.bsl [.int .i64 0] 1 1 [(0, 1)]), [.c (.int .i64 3)], some (.l 1, false), 0⟩,
  ⟨13, .N .mv, [.n 7], some (.l 2, false), 0⟩,
  ⟨14, .calli false (φ 101), [.l 0], some (.l 3, false), 0⟩,
  ⟨15, .X (.app 1 8), [.l 2, .l 0], some (.l 4, false), 0⟩,
  ⟨16, .calli true (φ 11), [.l 4, .l 0], some (.l 5, false), 0⟩,
  ⟨17, .N (.un .not), [.l 0], some (.l 6, false), 0⟩,
  ⟨18, .N .pick, [.l 7, .c (.bool true), .l 0], none, 0⟩,
  ⟨19, .N .mv, [.l 0], none, 0⟩,
  ⟨20, .N .mv, [.n 10], some (.l 0, false), 0⟩,
  ⟨21, .N .mv, [.n 0], some (.l 1, false), 0⟩,
  ⟨22, .N .mv, [.n 1], some (.l 2, false), 0⟩,
  ⟨23, .N (.bsl [.int .i64 0] 3 1 [(0, 1), (1, 1), (2, 1)]), [.c (.int .i64 5), .l 1, .l 0], some (.l 3, false), 0⟩,
  ⟨24, .N .mv, [.n 7], some (.l 4, false), 0⟩,
  ⟨25, .calli false (φ 101), [.l 0], some (.l 5, false), 0⟩,
  ⟨26, .X (.app 1 8), [.l 2, .l 0], some (.l 6, false), 0⟩,
  ⟨27, .calli true (φ 11), [.l 6, .l 0], some (.l 7, false), 0⟩,
  ⟨28, .N (.un .not), [.l 0], some (.l 8, false), 0⟩,
  ⟨29, .N .pick, [.l 9, .c (.bool true), .l 0], none, 0⟩] := Eq.trans rfl rfl
theorem er104_16 (φ : Nat → Nat) : r104_16 φ = [
  ⟨0, .N .mv, [.c (.bool false)], none, 0⟩] := Eq.trans rfl rfl
theorem er104_17 (φ : Nat → Nat) : r104_17 φ = [
  ⟨0, .N .mv, [.n 8], none, 0⟩,
  ⟨1, .calli false (φ 85), [.l 0], none, 0⟩,
  ⟨2, .N .mv, [.l 0], none, 0⟩,
  ⟨3, .N (.ext 0), [.l 0], none, 0⟩,
  ⟨4, .N (.ext 1), [.l 1], none, 0⟩,
  ⟨5, .N .mv, [.l 1], none, 0⟩,
  ⟨6, .N .mv, [.l 1], none, 0⟩] := Eq.trans rfl rfl
theorem er104_18 (φ : Nat → Nat) : r104_18 φ = [
  ⟨0, .N .mv, [.n 9], none, 0⟩,
  ⟨1, .calli false (φ 85), [.l 0], none, 0⟩,
  ⟨2, .N .mv, [.l 0], none, 0⟩,
  ⟨3, .N (.ext 0), [.l 0], none, 0⟩,
  ⟨4, .N (.ext 1), [.l 1], none, 0⟩,
  ⟨5, .N .mv, [.l 1], none, 0⟩,
  ⟨6, .N .mv, [.l 1], none, 0⟩] := Eq.trans rfl rfl
theorem er104_19 (φ : Nat → Nat) : r104_19 φ = [
  ⟨0, .N .mv, [.n 10], none, 0⟩,
  ⟨1, .calli false (φ 85), [.l 0], none, 0⟩,
  ⟨2, .N .mv, [.l 0], none, 0⟩,
  ⟨3, .N (.ext 0), [.l 0], none, 0⟩,
  ⟨4, .N (.ext 1), [.l 1], none, 0⟩,
  ⟨5, .N .mv, [.l 1], none, 0⟩,
  ⟨6, .N .mv, [.l 1], none, 0⟩] := Eq.trans rfl rfl
theorem er104_20 (φ : Nat → Nat) : r104_20 φ = [
  ⟨0, .N .mv, [.n 11], none, 0⟩,
  ⟨1, .calli false (φ 103), [.l 0], none, 0⟩,
  ⟨2, .N .mv, [.l 0], none, 0⟩,
  ⟨3, .N (.ext 0), [.l 0], none, 0⟩,
  ⟨4, .N (.ext 1), [.l 1], none, 0⟩,
  ⟨5, .N .mv, [.l 1], none, 0⟩,
  ⟨6, .N .mv, [.l 1], none, 0⟩] := Eq.trans rfl rfl
theorem er104_21 (φ : Nat → Nat) : r104_21 φ = [
  ⟨0, .N .mv, [.n 15], none, 0⟩,
  ⟨1, .calli false (φ 103), [.l 0], none, 0⟩,
  ⟨2, .N .mv, [.l 0], none, 0⟩,
  ⟨3, .N (.ext 0), [.l 0], none, 0⟩,
  ⟨4, .N (.ext 1), [.l 1], none, 0⟩,
  ⟨5, .N .mv, [.l 1], none, 0⟩,
  ⟨6, .N .mv, [.l 1], none, 0⟩] := Eq.trans rfl rfl
theorem er104_22 (φ : Nat → Nat) : r104_22 φ = [
  ⟨0, .N .mv, [.n 13], none, 0⟩,
  ⟨1, .calli false (φ 103), [.l 0], none, 0⟩,
  ⟨2, .N .mv, [.l 0], none, 0⟩,
  ⟨3, .N (.ext 0), [.l 0], none, 0⟩,
  ⟨4, .N (.ext 1), [.l 1], none, 0⟩,
  ⟨5, .N .mv, [.l 1], none, 0⟩,
  ⟨6, .N .mv, [.l 1], none, 0⟩] := Eq.trans rfl rfl
theorem er104_23 (φ : Nat → Nat) : r104_23 φ = [
  ⟨0, .N .mv, [.n 4], none, 0⟩,
  ⟨1, .N .mv, [.l 0], none, 0⟩,
  ⟨2, .N .mv, [.n 12], some (.l 0, true), 0⟩,
  ⟨3, .N (.bin .eql), [.l 0, .c (.int .i64 0)], some (.l 1, true), 0⟩,
  ⟨4, .N .pick, [.l 2, .l 0, .c (.bool false)], none, 0⟩,
  ⟨5, .N .mv, [.l 0], none, 0⟩,
  ⟨6, .N .mv, [.n 14], some (.l 0, true), 0⟩,
  ⟨7, .N (.bin .eql), [.l 0, .c (.int .i64 0)], some (.l 1, true), 0⟩,
  ⟨8, .N .pick, [.l 2, .l 0, .c (.bool false)], none, 0⟩,
  ⟨9, .N .mv, [.l 0], none, 0⟩,
  ⟨10, .N .mv, [.n 16], some (.l 0, true), 0⟩,
  ⟨11, .N (.bin .eql), [.l 0, .c (.int .i64 0)], some (.l 1, true), 0⟩,
  ⟨12, .N .pick, [.l 2, .l 0, .c (.bool false)], none, 0⟩,
  ⟨13, .N .mv, [.l 0], none, 0⟩,
  ⟨14, .N .mv, [.n 18], some (.l 0, true), 0⟩,
  ⟨15, .N .pick, [.l 1, .l 0, .c (.bool false)], none, 0⟩,
  ⟨16, .N .mv, [.l 0], none, 0⟩,
  ⟨17, .N .mv, [.n 20], some (.l 0, true), 0⟩,
  ⟨18, .N .pick, [.l 1, .l 0, .c (.bool false)], none, 0⟩,
  ⟨19, .N .mv, [.l 0], none, 0⟩,
  ⟨20, .N .mv, [.n 21], some (.l 0, true), 0⟩,
  ⟨21, .N (.un .not), [.l 0], some (.l 1, true), 0⟩,
  ⟨22, .N .pick, [.l 2, .l 0, .c (.bool false)], none, 0⟩,
  ⟨23, .N .mv, [.l 0], none, 0⟩,
  ⟨24, .N .mv, [.n 17], some (.l 0, true), 0⟩,
  ⟨25, .N .mv, [.n 7], some (.l 1, true), 0⟩,
  ⟨26, .calli true (φ 11), [.l 1, .l 0], some (.l 2, true), 0⟩,
  ⟨27, .N .pick, [.l 3, .l 0, .c (.bool false)], none, 0⟩,
  ⟨28, .N .mv, [.l 0], none, 0⟩,
  ⟨29, .N .mv, [.n 19], some (.l 0, true), 0⟩,
  ⟨30, .N .mv, [.n 7], some (.l 1, true), 0⟩,
  ⟨31, .calli true (φ 11), [.l 1, .l 0], some (.l 2, true), 0⟩,
  ⟨32, .N .pick, [.l 3, .l 0, .c (.bool false)], none, 0⟩,
  ⟨33, .N .mv, [.l 0], none, 0⟩] := Eq.trans rfl rfl
structure L22 (A : AProg) (φ : Nat → Nat) : Prop extends K22 A φ where
  putRow : Has A (φ 101) (f101 φ)
  putRows : Has A (φ 102) (f102 φ)
theorem app_frz {H K : Heap} {P : Nat} {bs : List Nat} {o w : AV} {xs l : List Int} (ho : OwnI false P K o xs) (hP : H.length ≤ P) (g : Gr H K) (hb : ∀ b ∈ bs, b < H.length) (hw : IsI w l) (hPK : P ≤ K.length) (hn : xs.length + l.length < 2000000000000) :
    ∃ o' K', xstep (.app 1 8) [o, w] (frzH bs K) = some (o', K') ∧ OwnI false P K' o' (xs ++ l) ∧ Gr H K' ∧ K.length ≤ K'.length := by
  obtain ⟨o', K', x1, x2, x3, x4⟩ := ownI_appI (own_frz ho fun b hbm => by have := hb b hbm; omega) hw (by rw [frz_len]; exact hPK) hn
  exact ⟨o', K', x1, x2, (g.frz bs).keepP hP x3, by rw [frz_len] at x4; exact x4⟩
theorem lit_app {H K : Heap} {bs : List Nat} {w : AV} {xs l : List Int} {cl : List AV} {n : Nat} (g : Gr H K) (hP : H.length ≤ K.length) (hb : ∀ b ∈ bs, b < H.length) (h0 : xs ≠ []) (hc : cl = cI xs) (hn' : n = xs.length) (hw : IsI w l) (hn : xs.length + l.length < 2000000000000) :
    ∃ o' K', xstep (.app 1 8) [.sl K.length 0 0 n 1 n true, w] (frzH bs (K ++ [.cells 0 false cl])) = some (o', K') ∧ OwnI false K.length K' o' (xs ++ l) ∧ Gr H K' ∧ K.length ≤ K'.length := by
  obtain ⟨o', K', x1, x2, x3, x4⟩ := app_frz (own_lit false K.length K (Nat.le_refl _) xs h0 cl hc n hn') hP (g.app _) hb hw (by simp) hn
  exact ⟨o', K', x1, x2, x3, by simp at x4; omega⟩
def cut30 (rows : List (List Int)) : List (List Int) := rows.map (·.take 30)
theorem Vw_part {nl : Bool} {H : Heap} {v : AV} {sz n : Nat} {c : List AV} (h : Vw nl H v sz n c) : v.part = true := by
  rcases h with ⟨_, _, h⟩ | ⟨_, b, g, cl, ex, ro, rfl, _⟩
  · cases nl
    · obtain ⟨b, g, o, rfl⟩ := h; rfl
    · have : v = .nils := h
      subst this; rfl
  · rfl
set_option maxHeartbeats 16000000 in
theorem w_CertPages (h : Has A (φ 104) (f104 φ)) (hS : PVal A (φ 84) [] (.bool true)) (g : L22 A φ) (a b : Int) (v : AV) (rows : List (List Int)) (hv : IsRows v rows) :
    PVal A (φ 104) [.int .i64 a, .int .i64 b, v] (.bool true) := by
  have hsh := hS.eq
  have hlen := hv.len
  refine pval_has h rfl ?_
  simp only [l104_7, b104, f104]
  simp [-List.getD_eq_getElem?_getD, -Int.ofNat_toNat, -getElem?_pos, er104_0, er104_1, er104_2, er104_3, er104_4, er104_5, er104_6, er104_8, er104_9, er104_10, er104_11, er104_12, er104_13, er104_14, er104_15, er104_16, er104_17, er104_18, er104_19, er104_20, er104_21, er104_22, er104_23, hsh]
  refine pc_loopI (fun m st => ∃ (i : Nat) (all p22 : AV) (H : Heap), i + m = min rows.length 11 ∧ OwnR true 0 H all (cut30 (rows.take i)) ∧
    st = ([.int .i64 a, .int .i64 b, v, .bool false, .bool true, all, .int .i64 i, .un, .un, .un, .un, .un, .un, .un, .un, .un, .un, .un, .un, .un, .un, .un, p22, .un, .un], H)) (min rows.length 11)
    ⟨0, _, _, [], by simp, ownR_nil _ _, rfl⟩ ?_
  rintro m st ⟨i, all, p22, H, hi, ho, rfl⟩
  by_cases hlt : i < rows.length
  · have hlt' : (i : Int) < rows.length := by omega
    by_cases h11 : i < 11
    · have h11' : (i : Int) < 11 := by omega
      have hiw := wrap1 h11 (by omega)
      obtain ⟨c, x, a1, a2, a3⟩ := hv.at hlt
      have xl := a3.len
      have x1 := a3.one
      obtain ⟨v', o, H', s1, y1, y2, y3, y4⟩ := cutI (P := H.length) (H := H ++ [Ob.cells 0 false []]) a3 30 (by omega) H.length (by simp)
      have hmin := minV_i (rows[i].length : Int) 30
      have hmm : min (rows[i].length : Int) 30 = ((min rows[i].length 30 : Nat) : Int) := by omega
      rw [hmm] at hmin
      simp [-List.getD_eq_getElem?_getD, -Int.ofNat_toNat, -getElem?_pos, er104_0, er104_1, er104_2, er104_3, er104_4, er104_5, er104_6, er104_8, er104_9, er104_10, er104_11, er104_12, er104_13, er104_14, er104_15, er104_16, er104_17, er104_18, er104_19, er104_20, er104_21, er104_22, er104_23, hlen, hlt', hlt, h11', h11, a1, a2, xl, x1, foldV, hmin, s1, y1]
      have hct : cut30 (rows.take i) ++ [rows[i].take 30] = cut30 (rows.take (i + 1)) := by unfold cut30; rw [List.take_succ_eq_append_getElem hlt, List.map_append]; rfl
      have ho' : OwnR true 0 H' all (cut30 (rows.take i)) := ho.keep (fun b _ hb => by rw [y3 b hb, List.getElem?_append_left hb]) (by simp at y4; omega)
      obtain ⟨o2, H2, z1, z2, z3, z4, z5, z6⟩ := ho'.app1 (Own.vw y2) (fun b hbl => by
        obtain ⟨b1, b2⟩ := Own.blk y2 hbl
        refine ⟨Nat.zero_le _, b2, fun e => ?_⟩
        have := (ho.blk e).2
        omega) (Nat.zero_le _) (by simp [cut30]; omega)
      rw [hct] at z2
      simp [-List.getD_eq_getElem?_getD, -Int.ofNat_toNat, -getElem?_pos, er104_0, er104_1, er104_2, er104_3, er104_4, er104_5, er104_6, er104_8, er104_9, er104_10, er104_11, er104_12, er104_13, er104_14, er104_15, er104_16, er104_17, er104_18, er104_19, er104_20, er104_21, er104_22, er104_23, hlen, hlt', hlt, h11', h11, a1, a2, xl, x1, foldV, hmin, s1, y1, Own.one y2, Own.cells y2, Own.part y2, z1, hiw]
      exact next_mk (m - 1) (by omega) ⟨i + 1, o2, _, H2, by omega, z2, rfl⟩
    · have h11' : ¬ (i : Int) < 11 := by omega
      obtain ⟨cs, hcs⟩ : ∃ cs, cut30 (rows.take i) = cs := ⟨_, rfl⟩
      have hcl : cs.length ≤ 11 := by rw [← hcs]; simp [cut30]; omega
      have hce : ∀ c ∈ cs, c.length ≤ 30 := by
        intro c hc
        rw [← hcs] at hc
        unfold cut30 at hc
        obtain ⟨q, _, rfl⟩ := List.mem_map.1 hc
        simp; omega
      have hce2 : ∀ ds : List (List Int), (∀ c ∈ ds, c.length ≤ 30) → (ds.flatMap putRow).length ≤ ds.length * 31 := by
        intro ds
        induction ds with
        | nil => intro _; simp
        | cons d ds ih =>
          intro hd
          have h1 := ih fun c hc => hd c (List.mem_cons_of_mem _ hc)
          have h2 := hd d List.mem_cons_self
          simp only [List.flatMap_cons, List.length_append, List.length_cons, putRow]
          omega
      rw [hcs] at ho
      obtain ⟨rs, ho1, ho2, ho3⟩ := ho
      rw [List.length_map] at ho1
      cases cs with
      | nil =>
        have hall : all = .nils := by
          rcases ho1 with ⟨_, _, h⟩ | ⟨h0, _⟩
          · exact h
          · exact absurd h0 (by simp)
        subst hall
        have sOne : ∀ K, Gr H K → SeesF 2 K .nils .nils [] := fun K _ => (seesF_closed rfl).mono (by omega)
        have sAll : ∀ K, Gr H K → SeesF 4 K .nils .nils [] := fun K _ => (seesF_closed rfl).mono (by omega)
        have hx : IsI .nils [] := isI_nil
        have hy : IsRows .nils [] := .inl ⟨rfl, rfl⟩
        have hb1 : ∀ b ∈ ([] : List Nat), b < H.length := fun b hb => by simp at hb
        have hb2 : ∀ b ∈ ([] : List Nat), b < H.length := fun b hb => by simp at hb
        have hoL : ([] : List Int).length ≤ 30 := by simp
        have hcL : (putRows []).length ≤ 1000 := by simp [putRows]
        have eqP : putC (.pages [] []) = [1] ++ putRow [] ++ putRows [] := by simp [putC]
        have eqR : putC (.ring []) = [3] ++ putRow [] := rfl
        have eqG : putC (.gap a b []) = [5, a, b] ++ putRow [] := rfl
        have lR : (putRow []).length = [].length + 1 := rfl
        have c1 := (g.cints (.pages hx hy) (by rw [eqP]; simp only [List.length_append, List.length_cons, List.length_nil]; omega)).eq
        have c2 := (g.cints (.ring hx) (by rw [eqR]; simp only [List.length_append, List.length_cons, List.length_nil]; omega)).eq
        have c3 := (g.cints (.gap a b hx) (by rw [eqG]; simp only [List.length_append, List.length_cons, List.length_nil]; omega)).eq
        have c4 := (w_PutRow g.putRow hx (by omega)).eq
        have c5 := (w_PutRows g.putRows g.putRow hy (by omega)).eq
        have r1 := (g.cread (isI_v (putC (.pages [] []))) (by rw [eqP]; simp only [List.length_append, List.length_cons, List.length_nil]; omega)).eq
        have r2 := (g.cread (isI_v (putC (.ring []))) (by rw [eqR]; simp only [List.length_append, List.length_cons, List.length_nil]; omega)).eq
        have r3 := (g.cread (isI_v (putC (.gap a b []))) (by rw [eqG]; simp only [List.length_append, List.length_cons, List.length_nil]; omega)).eq
        have hr1 : readR (putC (.pages [] [])) = some (.pages [] []) := (readR_put _ _).2 ⟨rfl, trivial⟩
        have hr2 : readR (putC (.ring [])) = some (.ring []) := (readR_put _ _).2 ⟨rfl, trivial⟩
        have hr3 : readR (putC (.gap a b [])) = some (.gap a b []) := (readR_put _ _).2 ⟨rfl, trivial⟩
        rw [hr1, readE_ok hr1] at r1
        rw [hr2, readE_ok hr2] at r2
        rw [hr3, readE_ok hr3] at r3
        have d1 := (w_OrderPages g.order g.clone (isI_v []) (isRows_rR []) (by omega)).eq
        have d2 := (w_OrderGap g.td g.order g.clone a b (isI_v []) (by omega)).eq
        have d3 := (show PVal A (φ 103) [.iface (φ 97) (.agg [vI []])] (.tup [.nils, .bool false]) from w_OrderNo g.td g.order (by simp [g.td.all]) (by simp [g.td.all])).eq
        have s1 := (g.csame (isI_v (putC (.pages [] []))) (isI_v (putC (.pages [] []))) (by rw [eqP]; simp only [List.length_append, List.length_cons, List.length_nil]; omega)).eq
        have s2 := (g.csame (isI_v (putC (.ring []))) (isI_v (putC (.ring []))) (by rw [eqR]; simp only [List.length_append, List.length_cons, List.length_nil]; omega)).eq
        have s3 := (g.csame (isI_v (putC (.gap a b []))) (isI_v (putC (.gap a b []))) (by rw [eqG]; simp only [List.length_append, List.length_cons, List.length_nil]; omega)).eq
        have s4 := (g.csame (isI_v []) hx (by omega)).eq
        simp only [decide_true] at s1 s2 s3 s4
        have nilL := fun K => (seesL_nil K)
        have vP : viewA H [.iface (φ 93) (.agg [.nils, .nils])] = some ([.iface (φ 93) (.agg [.nils, .nils])], _) := (SeesL.cons (SeesF.iface (SeesL.agg (SeesL.cons ((sOne H (Gr.refl H)).mono (e := 4) (by omega)) (SeesL.cons (sAll H (Gr.refl H)) ((nilL _).mono (by omega)) (by omega)) (by omega))) _) ((nilL _).mono (by omega)) (by omega)).va (by omega)
        obtain ⟨K1, hK1⟩ : ∃ K1, K1 = frzH ([] ++ ([] ++ []) ++ []) H := ⟨_, rfl⟩
        rw [← hK1] at vP
        have g1 : Gr H K1 := by rw [hK1]; exact (Gr.refl H).frz _
        have l1 : K1.length = H.length := by rw [hK1, frz_len]
        have vR : viewA K1 [.iface (φ 97) (.agg [.nils])] = some ([.iface (φ 97) (.agg [.nils])], _) := (SeesL.cons (SeesF.iface (SeesL.agg (SeesL.cons (sOne K1 g1) ((nilL _).mono (by omega)) (by omega))) _) ((nilL _).mono (by omega)) (by omega)).va (by omega)
        obtain ⟨K2, hK2⟩ : ∃ K2, K2 = frzH ([] ++ [] ++ []) K1 := ⟨_, rfl⟩
        rw [← hK2] at vR
        have g2 : Gr H K2 := by rw [hK2]; exact g1.frz _
        have l2 : K2.length = H.length := by rw [hK2, frz_len, l1]
        have vG : viewA K2 [.iface (φ 89) (.agg [.int .i64 a, .int .i64 b, .nils])] = some ([.iface (φ 89) (.agg [.int .i64 a, .int .i64 b, .nils])], _) := (SeesL.cons (SeesF.iface (SeesL.agg (SeesL.cons ((seesF_closed rfl).mono (e := 2) (by omega)) (SeesL.cons ((seesF_closed rfl).mono (by omega)) (SeesL.cons (sOne K2 g2) ((nilL _).mono (by omega)) (by omega)) (by omega)) (by omega))) _) ((nilL _).mono (by omega)) (by omega)).va (by omega)
        obtain ⟨K3, hK3⟩ : ∃ K3, K3 = frzH ([] ++ ([] ++ ([] ++ [])) ++ []) K2 := ⟨_, rfl⟩
        rw [← hK3] at vG
        have g3 : Gr H K3 := by rw [hK3]; exact g2.frz _
        have l3 : K3.length = H.length := by rw [hK3, frz_len, l2]
        have vOne : ∀ K, Gr H K → viewA K [.nils] = some ([.nils], frzH ([] ++ []) K) := fun K gK => (SeesL.cons (sOne K gK) ((nilL _).mono (by omega)) (by omega)).va (by omega)
        have vAll : ∀ K, Gr H K → viewA K [.nils] = some ([.nils], frzH ([] ++ []) K) := fun K gK => (SeesL.cons (sAll K gK) ((nilL _).mono (by omega)) (by omega)).va (by omega)
        have hb1' : ∀ b ∈ [] ++ [], b < H.length := fun b hb => hb1 b (by rw [List.append_nil] at hb; exact hb)
        have hb2' : ∀ b ∈ [] ++ [], b < H.length := fun b hb => hb2 b (by rw [List.append_nil] at hb; exact hb)
        have v4 := vOne _ (g3.app [.cells 0 false [.int .i64 1]])
        obtain ⟨o5, K5, x5, w5, g5, l5⟩ := lit_app (xs := [1]) (n := 1) (cl := [.int .i64 1]) g3 (by omega) hb1' (by simp) rfl rfl (isI_v (putRow [])) (by simp; omega)
        obtain ⟨K4, hK4⟩ : ∃ K4, K4 = frzH ([] ++ []) (K3 ++ [.cells 0 false [.int .i64 1]]) := ⟨_, rfl⟩
        rw [← hK4] at v4 x5
        have v6 := vAll _ g5
        obtain ⟨o7, K7, x7, w7, g7, l7⟩ := app_frz w5 (by omega) g5 hb2' (isI_v (putRows [])) l5 (by simp only [List.length_append, List.length_cons, List.length_nil]; omega)
        obtain ⟨K6, hK6⟩ : ∃ K6, K6 = frzH ([] ++ []) K5 := ⟨_, rfl⟩
        rw [← hK6] at v6 x7
        rw [← eqP] at w7
        have v8 := (Own.vw w7).r2 (closeds_cI _) (vI (putC (.pages [] []))) (isI_v _).closed
        have v9 := vOne _ (g7.app [.cells 0 false [.int .i64 3]])
        obtain ⟨o10, K10, x10, w10, g10, l10⟩ := lit_app (xs := [3]) (n := 1) (cl := [.int .i64 3]) g7 (by omega) hb1' (by simp) rfl rfl (isI_v (putRow [])) (by simp; omega)
        obtain ⟨K9, hK9⟩ : ∃ K9, K9 = frzH ([] ++ []) (K7 ++ [.cells 0 false [.int .i64 3]]) := ⟨_, rfl⟩
        rw [← hK9] at v9 x10
        rw [← eqR] at w10
        have v11 := (Own.vw w10).r2 (closeds_cI _) (vI (putC (.ring []))) (isI_v _).closed
        have v12 := vOne _ (g10.app [.cells 0 false [.int .i64 5, .int .i64 a, .int .i64 b]])
        obtain ⟨o13, K13, x13, w13, g13, l13⟩ := lit_app (xs := [5, a, b]) (n := 3) (cl := [.int .i64 5, .int .i64 a, .int .i64 b]) g10 (by omega) hb1' (by simp) rfl rfl (isI_v (putRow [])) (by simp; omega)
        obtain ⟨K12, hK12⟩ : ∃ K12, K12 = frzH ([] ++ []) (K10 ++ [.cells 0 false [.int .i64 5, .int .i64 a, .int .i64 b]]) := ⟨_, rfl⟩
        rw [← hK12] at v12 x13
        rw [← eqG] at w13
        have v14 := (Own.vw w13).r2 (closeds_cI _) (vI (putC (.gap a b []))) (isI_v _).closed
        have v15 : viewA K13 [vI [], .nils] = some ([vI [], .nils], _) := (SeesL.cons ((seesF_closed (isI_v []).closed).mono (e := 2) (by omega)) (SeesL.cons (sOne K13 g13) ((nilL _).mono (by omega)) (by omega)) (by omega)).va (by omega)
        simp only [rv_false] at v8 v11 v14
        have t1 := (isI_v (putC (.pages [] []))).closed
        have t2 := (isI_v (putC (.ring []))).closed
        have t3 := (isI_v (putC (.gap a b []))).closed
        have t4 := cvV_closed φ (.pages [] [])
        have t5 := cvV_closed φ (.ring [])
        have t6 := cvV_closed φ (.gap a b [])
        simp only [cvO, cvV] at r1 r2 r3
        simp only [cvV] at t4 t5 t6
        have u1 := fun K : Heap => viewA_closed (H := K) (vs := [vI (putC (.pages [] []))]) (by simp [closeds_cons, t1])
        have u2 := fun K : Heap => viewA_closed (H := K) (vs := [vI (putC (.ring []))]) (by simp [closeds_cons, t2])
        have u3 := fun K : Heap => viewA_closed (H := K) (vs := [vI (putC (.gap a b []))]) (by simp [closeds_cons, t3])
        have u4 := fun K : Heap => viewA_closed (H := K) (vs := [.iface (φ 93) (.agg [vI [], rR []])]) (by rw [closeds_cons, t4]; rfl)
        have u5 := fun K : Heap => viewA_closed (H := K) (vs := [.iface (φ 97) (.agg [vI []])]) (by rw [closeds_cons, t5]; rfl)
        have u6 := fun K : Heap => viewA_closed (H := K) (vs := [.iface (φ 89) (.agg [.int .i64 a, .int .i64 b, vI []])]) (by rw [closeds_cons, t6]; rfl)
        have t7 := (isI_v (putC (.pages [] []))).one
        have t8 := (isI_v (putC (.ring []))).one
        have t9 := (isI_v (putC (.gap a b []))).one
        simp only [List.append_nil, frzH_nil] at hK1 hK2 hK3 hK4 hK6 hK9 hK12
        subst hK1 hK2 hK3 hK4 hK6 hK9 hK12
        generalize putC (.pages [] []) = P1 at *
        generalize putC (.ring []) = P2 at *
        generalize putC (.gap a b []) = P3 at *
        generalize hRR : rR [] = RR at *
        generalize putRow [] = PR at *
        generalize putRows [] = PRS at *
        simp [-List.getD_eq_getElem?_getD, -Int.ofNat_toNat, -getElem?_pos, er104_0, er104_1, er104_2, er104_3, er104_4, er104_5, er104_6, er104_8, er104_9, er104_10, er104_11, er104_12, er104_13, er104_14, er104_15, er104_16, er104_17, er104_18, er104_19, er104_20, er104_21, er104_22, er104_23, hlen, hlt', hlt, h11', h11, vP, vR, vG, v4, v6, v8, v9, v11, v12, v14, v15, x5, x7, x10, x13, c1, c2, c3, c4, c5, r1, r2, r3, d1, d2, d3, s1, s2, s3, s4, t1, t2, t3, t4, t5, t6, t7, t8, t9, u1, u2, u3, u4, u5, u6, resK, resVs, resV, pack]
      | cons c0 ct =>
        obtain ⟨b0, gg, ex, hall, hlr, hH⟩ : ∃ b0 gg ex, all = .sl b0 gg 0 (c0 :: ct).length 1 (c0 :: ct).length ex ∧ rs.length = (c0 :: ct).length * 1 ∧ H[b0]? = some (.cells gg false rs) := by
          rcases ho1 with ⟨h0, _⟩ | ⟨_, b0, gg, ex, h1, _, h2, h3⟩
          · simp at h0
          · exact ⟨b0, gg, ex, h1, h2, h3⟩
        cases rs with
        | nil => simp at hlr
        | cons r0 rt =>
          obtain ⟨⟨hw0, _⟩, hrt⟩ := ho2.tail
          have hrl' : rt.length = ct.length := by simpa using hlr
          have hb0 := lt_of_get hH
          have hsl : ∀ (k : IntKind) rd, nstep (.slc 1 true false false) [all, .int k 1] rd = some (.val (.sl b0 gg 1 ct.length 1 ct.length ex)) := fun k rd => by
            rw [hall, n_slc]
            have e : bounds3 (c0 :: ct).length (c0 :: ct).length true false false [.int k 1] = some (1, (c0 :: ct).length, (c0 :: ct).length) := by
              simp [bounds3, intArg]; omega
            rw [e]
            simp
          have hix : ∀ (k : IntKind) rd, nstep (.idx 1) [all, .int k 0] rd = some (.val (.ptr b0 gg 0)) := fun k rd => by
            rw [hall, n_idx, if_pos ⟨by omega, by simp⟩]; rfl
          have hln : ∀ rd, nstep .lenS [all] rd = some (.val (.int .i64 ((ct.length + 1 : Nat) : Int))) := fun rd => by rw [hall]; rfl
          have hpos : (0 : Int) < (ct.length : Int) + 1 := by omega
          have sOne : ∀ K, Gr H K → SeesF 2 K r0 (vI c0) (blkOf r0).toList := fun K gK => (hw0.gr gK).seesF (closeds_cI c0)
          have sAll : ∀ K, Gr H K → SeesF 4 K (.sl b0 gg 1 ct.length 1 ct.length ex) (.vs ct.length 1 (ct.map vI)) (if ct.length = 0 then [] else b0 :: rt.flatMap fun r => (blkOf r).toList) := fun K gK => by
            obtain ⟨ro', hK⟩ := gK _ _ _ _ hH
            have e1 : (List.drop 1 (r0 :: rt)).take ct.length = rt := by rw [List.drop_succ_cons, List.drop_zero, ← hrl', List.take_length]
            have := sees_part (o := 1) (n := ct.length) (cl := ct.length) (ex := ex) (xs := ct.map eI) hK (by simp [hrl']; omega) (by rw [e1]; exact hrt.gr gK)
            rw [e1, eI_rv] at this
            exact this
          have hx : IsI (vI c0) c0 := isI_v c0
          have hy : IsRows (.vs ct.length 1 (ct.map vI)) ct := .inr ⟨ct.map vI, rfl, by simp, closeds_vI ct, fun j x zs h1 h2 => by
            rw [List.getElem?_map, h2] at h1
            cases h1; exact isI_v zs⟩
          have hb1 : ∀ b ∈ (blkOf r0).toList, b < H.length := fun b hb => by
            have : blkOf r0 = some b := by simpa using hb
            exact (ho3 r0 List.mem_cons_self b this).2.1
          have hb2 : ∀ b ∈ (if ct.length = 0 then [] else b0 :: rt.flatMap fun r => (blkOf r).toList), b < H.length := fun b hb => by
            split at hb
            · simp at hb
            · rcases List.mem_cons.1 hb with rfl | hb
              · exact hb0
              · obtain ⟨r, hr, hbr⟩ := List.mem_flatMap.1 hb
                exact (ho3 r (List.mem_cons_of_mem _ hr) b (by simpa using hbr)).2.1
          have hoL : c0.length ≤ 30 := hce c0 List.mem_cons_self
          have hcL : (putRows ct).length ≤ 1000 := by
            have := hce2 ct fun c hc => hce c (List.mem_cons_of_mem _ hc)
            simp only [List.length_cons] at hcl
            simp only [putRows, List.length_cons]; omega
          obtain ⟨x, hxe⟩ : ∃ x, vI c0 = x := ⟨_, rfl⟩
          have o1 := hw0.one
          have o2 := hw0.cells
          have o3 := Vw_part hw0
          have a1 : (AV.sl b0 gg 1 ct.length 1 ct.length ex).one = true := rfl
          have a2 : (AV.sl b0 gg 1 ct.length 1 ct.length ex).cells = [.sl b0 gg 1 ct.length 1 ct.length ex] := rfl
          have a3 : (AV.sl b0 gg 1 ct.length 1 ct.length ex).part = true := rfl
          have hH0 : (r0 :: rt)[0]? = some r0 := rfl
          rw [hxe] at sOne hx
          generalize hY : AV.vs ct.length 1 (ct.map vI) = y at *
          generalize hBS : (if ct.length = 0 then [] else b0 :: rt.flatMap fun r => (blkOf r).toList) = bs2 at *
          generalize hALL : AV.sl b0 gg 1 ct.length 1 ct.length ex = ALL at *
          have eqP : putC (.pages c0 ct) = [1] ++ putRow c0 ++ putRows ct := by simp [putC]
          have eqR : putC (.ring c0) = [3] ++ putRow c0 := rfl
          have eqG : putC (.gap a b c0) = [5, a, b] ++ putRow c0 := rfl
          have lR : (putRow c0).length = c0.length + 1 := rfl
          have c1 := (g.cints (.pages hx hy) (by rw [eqP]; simp only [List.length_append, List.length_cons, List.length_nil]; omega)).eq
          have c2 := (g.cints (.ring hx) (by rw [eqR]; simp only [List.length_append, List.length_cons, List.length_nil]; omega)).eq
          have c3 := (g.cints (.gap a b hx) (by rw [eqG]; simp only [List.length_append, List.length_cons, List.length_nil]; omega)).eq
          have c4 := (w_PutRow g.putRow hx (by omega)).eq
          have c5 := (w_PutRows g.putRows g.putRow hy (by omega)).eq
          have r1 := (g.cread (isI_v (putC (.pages c0 ct))) (by rw [eqP]; simp only [List.length_append, List.length_cons, List.length_nil]; omega)).eq
          have r2 := (g.cread (isI_v (putC (.ring c0))) (by rw [eqR]; simp only [List.length_append, List.length_cons, List.length_nil]; omega)).eq
          have r3 := (g.cread (isI_v (putC (.gap a b c0))) (by rw [eqG]; simp only [List.length_append, List.length_cons, List.length_nil]; omega)).eq
          have hr1 : readR (putC (.pages c0 ct)) = some (.pages c0 ct) := (readR_put _ _).2 ⟨rfl, trivial⟩
          have hr2 : readR (putC (.ring c0)) = some (.ring c0) := (readR_put _ _).2 ⟨rfl, trivial⟩
          have hr3 : readR (putC (.gap a b c0)) = some (.gap a b c0) := (readR_put _ _).2 ⟨rfl, trivial⟩
          rw [hr1, readE_ok hr1] at r1
          rw [hr2, readE_ok hr2] at r2
          rw [hr3, readE_ok hr3] at r3
          have d1 := (w_OrderPages g.order g.clone (isI_v c0) (isRows_rR ct) (by omega)).eq
          have d2 := (w_OrderGap g.td g.order g.clone a b (isI_v c0) (by omega)).eq
          have d3 := (show PVal A (φ 103) [.iface (φ 97) (.agg [vI c0])] (.tup [.nils, .bool false]) from w_OrderNo g.td g.order (by simp [g.td.all]) (by simp [g.td.all])).eq
          have s1 := (g.csame (isI_v (putC (.pages c0 ct))) (isI_v (putC (.pages c0 ct))) (by rw [eqP]; simp only [List.length_append, List.length_cons, List.length_nil]; omega)).eq
          have s2 := (g.csame (isI_v (putC (.ring c0))) (isI_v (putC (.ring c0))) (by rw [eqR]; simp only [List.length_append, List.length_cons, List.length_nil]; omega)).eq
          have s3 := (g.csame (isI_v (putC (.gap a b c0))) (isI_v (putC (.gap a b c0))) (by rw [eqG]; simp only [List.length_append, List.length_cons, List.length_nil]; omega)).eq
          have s4 := (g.csame (isI_v c0) hx (by omega)).eq
          simp only [decide_true] at s1 s2 s3 s4
          have nilL := fun K => (seesL_nil K)
          have vP : viewA H [.iface (φ 93) (.agg [r0, ALL])] = some ([.iface (φ 93) (.agg [x, y])], _) := (SeesL.cons (SeesF.iface (SeesL.agg (SeesL.cons ((sOne H (Gr.refl H)).mono (e := 4) (by omega)) (SeesL.cons (sAll H (Gr.refl H)) ((nilL _).mono (by omega)) (by omega)) (by omega))) _) ((nilL _).mono (by omega)) (by omega)).va (by omega)
          obtain ⟨K1, hK1⟩ : ∃ K1, K1 = frzH ((blkOf r0).toList ++ (bs2 ++ []) ++ []) H := ⟨_, rfl⟩
          rw [← hK1] at vP
          have g1 : Gr H K1 := by rw [hK1]; exact (Gr.refl H).frz _
          have l1 : K1.length = H.length := by rw [hK1, frz_len]
          have vR : viewA K1 [.iface (φ 97) (.agg [r0])] = some ([.iface (φ 97) (.agg [x])], _) := (SeesL.cons (SeesF.iface (SeesL.agg (SeesL.cons (sOne K1 g1) ((nilL _).mono (by omega)) (by omega))) _) ((nilL _).mono (by omega)) (by omega)).va (by omega)
          obtain ⟨K2, hK2⟩ : ∃ K2, K2 = frzH ((blkOf r0).toList ++ [] ++ []) K1 := ⟨_, rfl⟩
          rw [← hK2] at vR
          have g2 : Gr H K2 := by rw [hK2]; exact g1.frz _
          have l2 : K2.length = H.length := by rw [hK2, frz_len, l1]
          have vG : viewA K2 [.iface (φ 89) (.agg [.int .i64 a, .int .i64 b, r0])] = some ([.iface (φ 89) (.agg [.int .i64 a, .int .i64 b, x])], _) := (SeesL.cons (SeesF.iface (SeesL.agg (SeesL.cons ((seesF_closed rfl).mono (e := 2) (by omega)) (SeesL.cons ((seesF_closed rfl).mono (by omega)) (SeesL.cons (sOne K2 g2) ((nilL _).mono (by omega)) (by omega)) (by omega)) (by omega))) _) ((nilL _).mono (by omega)) (by omega)).va (by omega)
          obtain ⟨K3, hK3⟩ : ∃ K3, K3 = frzH ([] ++ ([] ++ ((blkOf r0).toList ++ [])) ++ []) K2 := ⟨_, rfl⟩
          rw [← hK3] at vG
          have g3 : Gr H K3 := by rw [hK3]; exact g2.frz _
          have l3 : K3.length = H.length := by rw [hK3, frz_len, l2]
          have vOne : ∀ K, Gr H K → viewA K [r0] = some ([x], frzH ((blkOf r0).toList ++ []) K) := fun K gK => (SeesL.cons (sOne K gK) ((nilL _).mono (by omega)) (by omega)).va (by omega)
          have vAll : ∀ K, Gr H K → viewA K [ALL] = some ([y], frzH (bs2 ++ []) K) := fun K gK => (SeesL.cons (sAll K gK) ((nilL _).mono (by omega)) (by omega)).va (by omega)
          have hb1' : ∀ b ∈ (blkOf r0).toList ++ [], b < H.length := fun b hb => hb1 b (by rw [List.append_nil] at hb; exact hb)
          have hb2' : ∀ b ∈ bs2 ++ [], b < H.length := fun b hb => hb2 b (by rw [List.append_nil] at hb; exact hb)
          have v4 := vOne _ (g3.app [.cells 0 false [.int .i64 1]])
          obtain ⟨o5, K5, x5, w5, g5, l5⟩ := lit_app (xs := [1]) (n := 1) (cl := [.int .i64 1]) g3 (by omega) hb1' (by simp) rfl rfl (isI_v (putRow c0)) (by simp; omega)
          obtain ⟨K4, hK4⟩ : ∃ K4, K4 = frzH ((blkOf r0).toList ++ []) (K3 ++ [.cells 0 false [.int .i64 1]]) := ⟨_, rfl⟩
          rw [← hK4] at v4 x5
          have v6 := vAll _ g5
          obtain ⟨o7, K7, x7, w7, g7, l7⟩ := app_frz w5 (by omega) g5 hb2' (isI_v (putRows ct)) l5 (by simp only [List.length_append, List.length_cons, List.length_nil]; omega)
          obtain ⟨K6, hK6⟩ : ∃ K6, K6 = frzH (bs2 ++ []) K5 := ⟨_, rfl⟩
          rw [← hK6] at v6 x7
          rw [← eqP] at w7
          have v8 := (Own.vw w7).r2 (closeds_cI _) (vI (putC (.pages c0 ct))) (isI_v _).closed
          have v9 := vOne _ (g7.app [.cells 0 false [.int .i64 3]])
          obtain ⟨o10, K10, x10, w10, g10, l10⟩ := lit_app (xs := [3]) (n := 1) (cl := [.int .i64 3]) g7 (by omega) hb1' (by simp) rfl rfl (isI_v (putRow c0)) (by simp; omega)
          obtain ⟨K9, hK9⟩ : ∃ K9, K9 = frzH ((blkOf r0).toList ++ []) (K7 ++ [.cells 0 false [.int .i64 3]]) := ⟨_, rfl⟩
          rw [← hK9] at v9 x10
          rw [← eqR] at w10
          have v11 := (Own.vw w10).r2 (closeds_cI _) (vI (putC (.ring c0))) (isI_v _).closed
          have v12 := vOne _ (g10.app [.cells 0 false [.int .i64 5, .int .i64 a, .int .i64 b]])
          obtain ⟨o13, K13, x13, w13, g13, l13⟩ := lit_app (xs := [5, a, b]) (n := 3) (cl := [.int .i64 5, .int .i64 a, .int .i64 b]) g10 (by omega) hb1' (by simp) rfl rfl (isI_v (putRow c0)) (by simp; omega)
          obtain ⟨K12, hK12⟩ : ∃ K12, K12 = frzH ((blkOf r0).toList ++ []) (K10 ++ [.cells 0 false [.int .i64 5, .int .i64 a, .int .i64 b]]) := ⟨_, rfl⟩
          rw [← hK12] at v12 x13
          rw [← eqG] at w13
          have v14 := (Own.vw w13).r2 (closeds_cI _) (vI (putC (.gap a b c0))) (isI_v _).closed
          have v15 : viewA K13 [vI c0, r0] = some ([vI c0, x], _) := (SeesL.cons ((seesF_closed (isI_v c0).closed).mono (e := 2) (by omega)) (SeesL.cons (sOne K13 g13) ((nilL _).mono (by omega)) (by omega)) (by omega)).va (by omega)
          simp only [rv_false] at v8 v11 v14
          have t1 := (isI_v (putC (.pages c0 ct))).closed
          have t2 := (isI_v (putC (.ring c0))).closed
          have t3 := (isI_v (putC (.gap a b c0))).closed
          have t4 := cvV_closed φ (.pages c0 ct)
          have t5 := cvV_closed φ (.ring c0)
          have t6 := cvV_closed φ (.gap a b c0)
          simp only [cvO, cvV] at r1 r2 r3
          simp only [cvV] at t4 t5 t6
          have u1 := fun K : Heap => viewA_closed (H := K) (vs := [vI (putC (.pages c0 ct))]) (by simp [closeds_cons, t1])
          have u2 := fun K : Heap => viewA_closed (H := K) (vs := [vI (putC (.ring c0))]) (by simp [closeds_cons, t2])
          have u3 := fun K : Heap => viewA_closed (H := K) (vs := [vI (putC (.gap a b c0))]) (by simp [closeds_cons, t3])
          have u4 := fun K : Heap => viewA_closed (H := K) (vs := [.iface (φ 93) (.agg [vI c0, rR ct])]) (by rw [closeds_cons, t4]; rfl)
          have u5 := fun K : Heap => viewA_closed (H := K) (vs := [.iface (φ 97) (.agg [vI c0])]) (by rw [closeds_cons, t5]; rfl)
          have u6 := fun K : Heap => viewA_closed (H := K) (vs := [.iface (φ 89) (.agg [.int .i64 a, .int .i64 b, vI c0])]) (by rw [closeds_cons, t6]; rfl)
          have t7 := (isI_v (putC (.pages c0 ct))).one
          have t8 := (isI_v (putC (.ring c0))).one
          have t9 := (isI_v (putC (.gap a b c0))).one
          generalize putC (.pages c0 ct) = P1 at *
          generalize putC (.ring c0) = P2 at *
          generalize putC (.gap a b c0) = P3 at *
          generalize hRR : rR ct = RR at *
          generalize putRow c0 = PR at *
          generalize putRows ct = PRS at *
          simp [-List.getD_eq_getElem?_getD, -Int.ofNat_toNat, -getElem?_pos, er104_0, er104_1, er104_2, er104_3, er104_4, er104_5, er104_6, er104_8, er104_9, er104_10, er104_11, er104_12, er104_13, er104_14, er104_15, er104_16, er104_17, er104_18, er104_19, er104_20, er104_21, er104_22, er104_23, hlen, hlt', hlt, h11', h11, hsl, hix, hln, hpos, hH, hH0, o1, o2, o3, a1, a2, a3, vP, vR, vG, v4, v6, v8, v9, v11, v12, v14, v15, x5, x7, x10, x13, c1, c2, c3, c4, c5, r1, r2, r3, d1, d2, d3, s1, s2, s3, s4, t1, t2, t3, t4, t5, t6, t7, t8, t9, u1, u2, u3, u4, u5, u6, resK, resVs, resV, pack]
  · have hlt' : ¬ (i : Int) < rows.length := by omega
    have h11 : True := trivial
    have h11' : True := trivial
    obtain ⟨cs, hcs⟩ : ∃ cs, cut30 (rows.take i) = cs := ⟨_, rfl⟩
    have hcl : cs.length ≤ 11 := by rw [← hcs]; simp [cut30]; omega
    have hce : ∀ c ∈ cs, c.length ≤ 30 := by
      intro c hc
      rw [← hcs] at hc
      unfold cut30 at hc
      obtain ⟨q, _, rfl⟩ := List.mem_map.1 hc
      simp; omega
    have hce2 : ∀ ds : List (List Int), (∀ c ∈ ds, c.length ≤ 30) → (ds.flatMap putRow).length ≤ ds.length * 31 := by
      intro ds
      induction ds with
      | nil => intro _; simp
      | cons d ds ih =>
        intro hd
        have h1 := ih fun c hc => hd c (List.mem_cons_of_mem _ hc)
        have h2 := hd d List.mem_cons_self
        simp only [List.flatMap_cons, List.length_append, List.length_cons, putRow]
        omega
    rw [hcs] at ho
    obtain ⟨rs, ho1, ho2, ho3⟩ := ho
    rw [List.length_map] at ho1
    cases cs with
    | nil =>
      have hall : all = .nils := by
        rcases ho1 with ⟨_, _, h⟩ | ⟨h0, _⟩
        · exact h
        · exact absurd h0 (by simp)
      subst hall
      have sOne : ∀ K, Gr H K → SeesF 2 K .nils .nils [] := fun K _ => (seesF_closed rfl).mono (by omega)
      have sAll : ∀ K, Gr H K → SeesF 4 K .nils .nils [] := fun K _ => (seesF_closed rfl).mono (by omega)
      have hx : IsI .nils [] := isI_nil
      have hy : IsRows .nils [] := .inl ⟨rfl, rfl⟩
      have hb1 : ∀ b ∈ ([] : List Nat), b < H.length := fun b hb => by simp at hb
      have hb2 : ∀ b ∈ ([] : List Nat), b < H.length := fun b hb => by simp at hb
      have hoL : ([] : List Int).length ≤ 30 := by simp
      have hcL : (putRows []).length ≤ 1000 := by simp [putRows]
      have eqP : putC (.pages [] []) = [1] ++ putRow [] ++ putRows [] := by simp [putC]
      have eqR : putC (.ring []) = [3] ++ putRow [] := rfl
      have eqG : putC (.gap a b []) = [5, a, b] ++ putRow [] := rfl
      have lR : (putRow []).length = [].length + 1 := rfl
      have c1 := (g.cints (.pages hx hy) (by rw [eqP]; simp only [List.length_append, List.length_cons, List.length_nil]; omega)).eq
      have c2 := (g.cints (.ring hx) (by rw [eqR]; simp only [List.length_append, List.length_cons, List.length_nil]; omega)).eq
      have c3 := (g.cints (.gap a b hx) (by rw [eqG]; simp only [List.length_append, List.length_cons, List.length_nil]; omega)).eq
      have c4 := (w_PutRow g.putRow hx (by omega)).eq
      have c5 := (w_PutRows g.putRows g.putRow hy (by omega)).eq
      have r1 := (g.cread (isI_v (putC (.pages [] []))) (by rw [eqP]; simp only [List.length_append, List.length_cons, List.length_nil]; omega)).eq
      have r2 := (g.cread (isI_v (putC (.ring []))) (by rw [eqR]; simp only [List.length_append, List.length_cons, List.length_nil]; omega)).eq
      have r3 := (g.cread (isI_v (putC (.gap a b []))) (by rw [eqG]; simp only [List.length_append, List.length_cons, List.length_nil]; omega)).eq
      have hr1 : readR (putC (.pages [] [])) = some (.pages [] []) := (readR_put _ _).2 ⟨rfl, trivial⟩
      have hr2 : readR (putC (.ring [])) = some (.ring []) := (readR_put _ _).2 ⟨rfl, trivial⟩
      have hr3 : readR (putC (.gap a b [])) = some (.gap a b []) := (readR_put _ _).2 ⟨rfl, trivial⟩
      rw [hr1, readE_ok hr1] at r1
      rw [hr2, readE_ok hr2] at r2
      rw [hr3, readE_ok hr3] at r3
      have d1 := (w_OrderPages g.order g.clone (isI_v []) (isRows_rR []) (by omega)).eq
      have d2 := (w_OrderGap g.td g.order g.clone a b (isI_v []) (by omega)).eq
      have d3 := (show PVal A (φ 103) [.iface (φ 97) (.agg [vI []])] (.tup [.nils, .bool false]) from w_OrderNo g.td g.order (by simp [g.td.all]) (by simp [g.td.all])).eq
      have s1 := (g.csame (isI_v (putC (.pages [] []))) (isI_v (putC (.pages [] []))) (by rw [eqP]; simp only [List.length_append, List.length_cons, List.length_nil]; omega)).eq
      have s2 := (g.csame (isI_v (putC (.ring []))) (isI_v (putC (.ring []))) (by rw [eqR]; simp only [List.length_append, List.length_cons, List.length_nil]; omega)).eq
      have s3 := (g.csame (isI_v (putC (.gap a b []))) (isI_v (putC (.gap a b []))) (by rw [eqG]; simp only [List.length_append, List.length_cons, List.length_nil]; omega)).eq
      have s4 := (g.csame (isI_v []) hx (by omega)).eq
      simp only [decide_true] at s1 s2 s3 s4
      have nilL := fun K => (seesL_nil K)
      have vP : viewA H [.iface (φ 93) (.agg [.nils, .nils])] = some ([.iface (φ 93) (.agg [.nils, .nils])], _) := (SeesL.cons (SeesF.iface (SeesL.agg (SeesL.cons ((sOne H (Gr.refl H)).mono (e := 4) (by omega)) (SeesL.cons (sAll H (Gr.refl H)) ((nilL _).mono (by omega)) (by omega)) (by omega))) _) ((nilL _).mono (by omega)) (by omega)).va (by omega)
      obtain ⟨K1, hK1⟩ : ∃ K1, K1 = frzH ([] ++ ([] ++ []) ++ []) H := ⟨_, rfl⟩
      rw [← hK1] at vP
      have g1 : Gr H K1 := by rw [hK1]; exact (Gr.refl H).frz _
      have l1 : K1.length = H.length := by rw [hK1, frz_len]
      have vR : viewA K1 [.iface (φ 97) (.agg [.nils])] = some ([.iface (φ 97) (.agg [.nils])], _) := (SeesL.cons (SeesF.iface (SeesL.agg (SeesL.cons (sOne K1 g1) ((nilL _).mono (by omega)) (by omega))) _) ((nilL _).mono (by omega)) (by omega)).va (by omega)
      obtain ⟨K2, hK2⟩ : ∃ K2, K2 = frzH ([] ++ [] ++ []) K1 := ⟨_, rfl⟩
      rw [← hK2] at vR
      have g2 : Gr H K2 := by rw [hK2]; exact g1.frz _
      have l2 : K2.length = H.length := by rw [hK2, frz_len, l1]
      have vG : viewA K2 [.iface (φ 89) (.agg [.int .i64 a, .int .i64 b, .nils])] = some ([.iface (φ 89) (.agg [.int .i64 a, .int .i64 b, .nils])], _) := (SeesL.cons (SeesF.iface (SeesL.agg (SeesL.cons ((seesF_closed rfl).mono (e := 2) (by omega)) (SeesL.cons ((seesF_closed rfl).mono (by omega)) (SeesL.cons (sOne K2 g2) ((nilL _).mono (by omega)) (by omega)) (by omega)) (by omega))) _) ((nilL _).mono (by omega)) (by omega)).va (by omega)
      obtain ⟨K3, hK3⟩ : ∃ K3, K3 = frzH ([] ++ ([] ++ ([] ++ [])) ++ []) K2 := ⟨_, rfl⟩
      rw [← hK3] at vG
      have g3 : Gr H K3 := by rw [hK3]; exact g2.frz _
      have l3 : K3.length = H.length := by rw [hK3, frz_len, l2]
      have vOne : ∀ K, Gr H K → viewA K [.nils] = some ([.nils], frzH ([] ++ []) K) := fun K gK => (SeesL.cons (sOne K gK) ((nilL _).mono (by omega)) (by omega)).va (by omega)
      have vAll : ∀ K, Gr H K → viewA K [.nils] = some ([.nils], frzH ([] ++ []) K) := fun K gK => (SeesL.cons (sAll K gK) ((nilL _).mono (by omega)) (by omega)).va (by omega)
      have hb1' : ∀ b ∈ [] ++ [], b < H.length := fun b hb => hb1 b (by rw [List.append_nil] at hb; exact hb)
      have hb2' : ∀ b ∈ [] ++ [], b < H.length := fun b hb => hb2 b (by rw [List.append_nil] at hb; exact hb)
      have v4 := vOne _ (g3.app [.cells 0 false [.int .i64 1]])
      obtain ⟨o5, K5, x5, w5, g5, l5⟩ := lit_app (xs := [1]) (n := 1) (cl := [.int .i64 1]) g3 (by omega) hb1' (by simp) rfl rfl (isI_v (putRow [])) (by simp; omega)
      obtain ⟨K4, hK4⟩ : ∃ K4, K4 = frzH ([] ++ []) (K3 ++ [.cells 0 false [.int .i64 1]]) := ⟨_, rfl⟩
      rw [← hK4] at v4 x5
      have v6 := vAll _ g5
      obtain ⟨o7, K7, x7, w7, g7, l7⟩ := app_frz w5 (by omega) g5 hb2' (isI_v (putRows [])) l5 (by simp only [List.length_append, List.length_cons, List.length_nil]; omega)
      obtain ⟨K6, hK6⟩ : ∃ K6, K6 = frzH ([] ++ []) K5 := ⟨_, rfl⟩
      rw [← hK6] at v6 x7
      rw [← eqP] at w7
      have v8 := (Own.vw w7).r2 (closeds_cI _) (vI (putC (.pages [] []))) (isI_v _).closed
      have v9 := vOne _ (g7.app [.cells 0 false [.int .i64 3]])
      obtain ⟨o10, K10, x10, w10, g10, l10⟩ := lit_app (xs := [3]) (n := 1) (cl := [.int .i64 3]) g7 (by omega) hb1' (by simp) rfl rfl (isI_v (putRow [])) (by simp; omega)
      obtain ⟨K9, hK9⟩ : ∃ K9, K9 = frzH ([] ++ []) (K7 ++ [.cells 0 false [.int .i64 3]]) := ⟨_, rfl⟩
      rw [← hK9] at v9 x10
      rw [← eqR] at w10
      have v11 := (Own.vw w10).r2 (closeds_cI _) (vI (putC (.ring []))) (isI_v _).closed
      have v12 := vOne _ (g10.app [.cells 0 false [.int .i64 5, .int .i64 a, .int .i64 b]])
      obtain ⟨o13, K13, x13, w13, g13, l13⟩ := lit_app (xs := [5, a, b]) (n := 3) (cl := [.int .i64 5, .int .i64 a, .int .i64 b]) g10 (by omega) hb1' (by simp) rfl rfl (isI_v (putRow [])) (by simp; omega)
      obtain ⟨K12, hK12⟩ : ∃ K12, K12 = frzH ([] ++ []) (K10 ++ [.cells 0 false [.int .i64 5, .int .i64 a, .int .i64 b]]) := ⟨_, rfl⟩
      rw [← hK12] at v12 x13
      rw [← eqG] at w13
      have v14 := (Own.vw w13).r2 (closeds_cI _) (vI (putC (.gap a b []))) (isI_v _).closed
      have v15 : viewA K13 [vI [], .nils] = some ([vI [], .nils], _) := (SeesL.cons ((seesF_closed (isI_v []).closed).mono (e := 2) (by omega)) (SeesL.cons (sOne K13 g13) ((nilL _).mono (by omega)) (by omega)) (by omega)).va (by omega)
      simp only [rv_false] at v8 v11 v14
      have t1 := (isI_v (putC (.pages [] []))).closed
      have t2 := (isI_v (putC (.ring []))).closed
      have t3 := (isI_v (putC (.gap a b []))).closed
      have t4 := cvV_closed φ (.pages [] [])
      have t5 := cvV_closed φ (.ring [])
      have t6 := cvV_closed φ (.gap a b [])
      simp only [cvO, cvV] at r1 r2 r3
      simp only [cvV] at t4 t5 t6
      have u1 := fun K : Heap => viewA_closed (H := K) (vs := [vI (putC (.pages [] []))]) (by simp [closeds_cons, t1])
      have u2 := fun K : Heap => viewA_closed (H := K) (vs := [vI (putC (.ring []))]) (by simp [closeds_cons, t2])
      have u3 := fun K : Heap => viewA_closed (H := K) (vs := [vI (putC (.gap a b []))]) (by simp [closeds_cons, t3])
      have u4 := fun K : Heap => viewA_closed (H := K) (vs := [.iface (φ 93) (.agg [vI [], rR []])]) (by rw [closeds_cons, t4]; rfl)
      have u5 := fun K : Heap => viewA_closed (H := K) (vs := [.iface (φ 97) (.agg [vI []])]) (by rw [closeds_cons, t5]; rfl)
      have u6 := fun K : Heap => viewA_closed (H := K) (vs := [.iface (φ 89) (.agg [.int .i64 a, .int .i64 b, vI []])]) (by rw [closeds_cons, t6]; rfl)
      have t7 := (isI_v (putC (.pages [] []))).one
      have t8 := (isI_v (putC (.ring []))).one
      have t9 := (isI_v (putC (.gap a b []))).one
      simp only [List.append_nil, frzH_nil] at hK1 hK2 hK3 hK4 hK6 hK9 hK12
      subst hK1 hK2 hK3 hK4 hK6 hK9 hK12
      generalize putC (.pages [] []) = P1 at *
      generalize putC (.ring []) = P2 at *
      generalize putC (.gap a b []) = P3 at *
      generalize hRR : rR [] = RR at *
      generalize putRow [] = PR at *
      generalize putRows [] = PRS at *
      simp [-List.getD_eq_getElem?_getD, -Int.ofNat_toNat, -getElem?_pos, er104_0, er104_1, er104_2, er104_3, er104_4, er104_5, er104_6, er104_8, er104_9, er104_10, er104_11, er104_12, er104_13, er104_14, er104_15, er104_16, er104_17, er104_18, er104_19, er104_20, er104_21, er104_22, er104_23, hlen, hlt', hlt, h11', h11, vP, vR, vG, v4, v6, v8, v9, v11, v12, v14, v15, x5, x7, x10, x13, c1, c2, c3, c4, c5, r1, r2, r3, d1, d2, d3, s1, s2, s3, s4, t1, t2, t3, t4, t5, t6, t7, t8, t9, u1, u2, u3, u4, u5, u6, resK, resVs, resV, pack]
    | cons c0 ct =>
      obtain ⟨b0, gg, ex, hall, hlr, hH⟩ : ∃ b0 gg ex, all = .sl b0 gg 0 (c0 :: ct).length 1 (c0 :: ct).length ex ∧ rs.length = (c0 :: ct).length * 1 ∧ H[b0]? = some (.cells gg false rs) := by
        rcases ho1 with ⟨h0, _⟩ | ⟨_, b0, gg, ex, h1, _, h2, h3⟩
        · simp at h0
        · exact ⟨b0, gg, ex, h1, h2, h3⟩
      cases rs with
      | nil => simp at hlr
      | cons r0 rt =>
        obtain ⟨⟨hw0, _⟩, hrt⟩ := ho2.tail
        have hrl' : rt.length = ct.length := by simpa using hlr
        have hb0 := lt_of_get hH
        have hsl : ∀ (k : IntKind) rd, nstep (.slc 1 true false false) [all, .int k 1] rd = some (.val (.sl b0 gg 1 ct.length 1 ct.length ex)) := fun k rd => by
          rw [hall, n_slc]
          have e : bounds3 (c0 :: ct).length (c0 :: ct).length true false false [.int k 1] = some (1, (c0 :: ct).length, (c0 :: ct).length) := by
            simp [bounds3, intArg]; omega
          rw [e]
          simp
        have hix : ∀ (k : IntKind) rd, nstep (.idx 1) [all, .int k 0] rd = some (.val (.ptr b0 gg 0)) := fun k rd => by
          rw [hall, n_idx, if_pos ⟨by omega, by simp⟩]; rfl
        have hln : ∀ rd, nstep .lenS [all] rd = some (.val (.int .i64 ((ct.length + 1 : Nat) : Int))) := fun rd => by rw [hall]; rfl
        have hpos : (0 : Int) < (ct.length : Int) + 1 := by omega
        have sOne : ∀ K, Gr H K → SeesF 2 K r0 (vI c0) (blkOf r0).toList := fun K gK => (hw0.gr gK).seesF (closeds_cI c0)
        have sAll : ∀ K, Gr H K → SeesF 4 K (.sl b0 gg 1 ct.length 1 ct.length ex) (.vs ct.length 1 (ct.map vI)) (if ct.length = 0 then [] else b0 :: rt.flatMap fun r => (blkOf r).toList) := fun K gK => by
          obtain ⟨ro', hK⟩ := gK _ _ _ _ hH
          have e1 : (List.drop 1 (r0 :: rt)).take ct.length = rt := by rw [List.drop_succ_cons, List.drop_zero, ← hrl', List.take_length]
          have := sees_part (o := 1) (n := ct.length) (cl := ct.length) (ex := ex) (xs := ct.map eI) hK (by simp [hrl']; omega) (by rw [e1]; exact hrt.gr gK)
          rw [e1, eI_rv] at this
          exact this
        have hx : IsI (vI c0) c0 := isI_v c0
        have hy : IsRows (.vs ct.length 1 (ct.map vI)) ct := .inr ⟨ct.map vI, rfl, by simp, closeds_vI ct, fun j x zs h1 h2 => by
          rw [List.getElem?_map, h2] at h1
          cases h1; exact isI_v zs⟩
        have hb1 : ∀ b ∈ (blkOf r0).toList, b < H.length := fun b hb => by
          have : blkOf r0 = some b := by simpa using hb
          exact (ho3 r0 List.mem_cons_self b this).2.1
        have hb2 : ∀ b ∈ (if ct.length = 0 then [] else b0 :: rt.flatMap fun r => (blkOf r).toList), b < H.length := fun b hb => by
          split at hb
          · simp at hb
          · rcases List.mem_cons.1 hb with rfl | hb
            · exact hb0
            · obtain ⟨r, hr, hbr⟩ := List.mem_flatMap.1 hb
              exact (ho3 r (List.mem_cons_of_mem _ hr) b (by simpa using hbr)).2.1
        have hoL : c0.length ≤ 30 := hce c0 List.mem_cons_self
        have hcL : (putRows ct).length ≤ 1000 := by
          have := hce2 ct fun c hc => hce c (List.mem_cons_of_mem _ hc)
          simp only [List.length_cons] at hcl
          simp only [putRows, List.length_cons]; omega
        obtain ⟨x, hxe⟩ : ∃ x, vI c0 = x := ⟨_, rfl⟩
        have o1 := hw0.one
        have o2 := hw0.cells
        have o3 := Vw_part hw0
        have a1 : (AV.sl b0 gg 1 ct.length 1 ct.length ex).one = true := rfl
        have a2 : (AV.sl b0 gg 1 ct.length 1 ct.length ex).cells = [.sl b0 gg 1 ct.length 1 ct.length ex] := rfl
        have a3 : (AV.sl b0 gg 1 ct.length 1 ct.length ex).part = true := rfl
        have hH0 : (r0 :: rt)[0]? = some r0 := rfl
        rw [hxe] at sOne hx
        generalize hY : AV.vs ct.length 1 (ct.map vI) = y at *
        generalize hBS : (if ct.length = 0 then [] else b0 :: rt.flatMap fun r => (blkOf r).toList) = bs2 at *
        generalize hALL : AV.sl b0 gg 1 ct.length 1 ct.length ex = ALL at *
        have eqP : putC (.pages c0 ct) = [1] ++ putRow c0 ++ putRows ct := by simp [putC]
        have eqR : putC (.ring c0) = [3] ++ putRow c0 := rfl
        have eqG : putC (.gap a b c0) = [5, a, b] ++ putRow c0 := rfl
        have lR : (putRow c0).length = c0.length + 1 := rfl
        have c1 := (g.cints (.pages hx hy) (by rw [eqP]; simp only [List.length_append, List.length_cons, List.length_nil]; omega)).eq
        have c2 := (g.cints (.ring hx) (by rw [eqR]; simp only [List.length_append, List.length_cons, List.length_nil]; omega)).eq
        have c3 := (g.cints (.gap a b hx) (by rw [eqG]; simp only [List.length_append, List.length_cons, List.length_nil]; omega)).eq
        have c4 := (w_PutRow g.putRow hx (by omega)).eq
        have c5 := (w_PutRows g.putRows g.putRow hy (by omega)).eq
        have r1 := (g.cread (isI_v (putC (.pages c0 ct))) (by rw [eqP]; simp only [List.length_append, List.length_cons, List.length_nil]; omega)).eq
        have r2 := (g.cread (isI_v (putC (.ring c0))) (by rw [eqR]; simp only [List.length_append, List.length_cons, List.length_nil]; omega)).eq
        have r3 := (g.cread (isI_v (putC (.gap a b c0))) (by rw [eqG]; simp only [List.length_append, List.length_cons, List.length_nil]; omega)).eq
        have hr1 : readR (putC (.pages c0 ct)) = some (.pages c0 ct) := (readR_put _ _).2 ⟨rfl, trivial⟩
        have hr2 : readR (putC (.ring c0)) = some (.ring c0) := (readR_put _ _).2 ⟨rfl, trivial⟩
        have hr3 : readR (putC (.gap a b c0)) = some (.gap a b c0) := (readR_put _ _).2 ⟨rfl, trivial⟩
        rw [hr1, readE_ok hr1] at r1
        rw [hr2, readE_ok hr2] at r2
        rw [hr3, readE_ok hr3] at r3
        have d1 := (w_OrderPages g.order g.clone (isI_v c0) (isRows_rR ct) (by omega)).eq
        have d2 := (w_OrderGap g.td g.order g.clone a b (isI_v c0) (by omega)).eq
        have d3 := (show PVal A (φ 103) [.iface (φ 97) (.agg [vI c0])] (.tup [.nils, .bool false]) from w_OrderNo g.td g.order (by simp [g.td.all]) (by simp [g.td.all])).eq
        have s1 := (g.csame (isI_v (putC (.pages c0 ct))) (isI_v (putC (.pages c0 ct))) (by rw [eqP]; simp only [List.length_append, List.length_cons, List.length_nil]; omega)).eq
        have s2 := (g.csame (isI_v (putC (.ring c0))) (isI_v (putC (.ring c0))) (by rw [eqR]; simp only [List.length_append, List.length_cons, List.length_nil]; omega)).eq
        have s3 := (g.csame (isI_v (putC (.gap a b c0))) (isI_v (putC (.gap a b c0))) (by rw [eqG]; simp only [List.length_append, List.length_cons, List.length_nil]; omega)).eq
        have s4 := (g.csame (isI_v c0) hx (by omega)).eq
        simp only [decide_true] at s1 s2 s3 s4
        have nilL := fun K => (seesL_nil K)
        have vP : viewA H [.iface (φ 93) (.agg [r0, ALL])] = some ([.iface (φ 93) (.agg [x, y])], _) := (SeesL.cons (SeesF.iface (SeesL.agg (SeesL.cons ((sOne H (Gr.refl H)).mono (e := 4) (by omega)) (SeesL.cons (sAll H (Gr.refl H)) ((nilL _).mono (by omega)) (by omega)) (by omega))) _) ((nilL _).mono (by omega)) (by omega)).va (by omega)
        obtain ⟨K1, hK1⟩ : ∃ K1, K1 = frzH ((blkOf r0).toList ++ (bs2 ++ []) ++ []) H := ⟨_, rfl⟩
        rw [← hK1] at vP
        have g1 : Gr H K1 := by rw [hK1]; exact (Gr.refl H).frz _
        have l1 : K1.length = H.length := by rw [hK1, frz_len]
        have vR : viewA K1 [.iface (φ 97) (.agg [r0])] = some ([.iface (φ 97) (.agg [x])], _) := (SeesL.cons (SeesF.iface (SeesL.agg (SeesL.cons (sOne K1 g1) ((nilL _).mono (by omega)) (by omega))) _) ((nilL _).mono (by omega)) (by omega)).va (by omega)
        obtain ⟨K2, hK2⟩ : ∃ K2, K2 = frzH ((blkOf r0).toList ++ [] ++ []) K1 := ⟨_, rfl⟩
        rw [← hK2] at vR
        have g2 : Gr H K2 := by rw [hK2]; exact g1.frz _
        have l2 : K2.length = H.length := by rw [hK2, frz_len, l1]
        have vG : viewA K2 [.iface (φ 89) (.agg [.int .i64 a, .int .i64 b, r0])] = some ([.iface (φ 89) (.agg [.int .i64 a, .int .i64 b, x])], _) := (SeesL.cons (SeesF.iface (SeesL.agg (SeesL.cons ((seesF_closed rfl).mono (e := 2) (by omega)) (SeesL.cons ((seesF_closed rfl).mono (by omega)) (SeesL.cons (sOne K2 g2) ((nilL _).mono (by omega)) (by omega)) (by omega)) (by omega))) _) ((nilL _).mono (by omega)) (by omega)).va (by omega)
        obtain ⟨K3, hK3⟩ : ∃ K3, K3 = frzH ([] ++ ([] ++ ((blkOf r0).toList ++ [])) ++ []) K2 := ⟨_, rfl⟩
        rw [← hK3] at vG
        have g3 : Gr H K3 := by rw [hK3]; exact g2.frz _
        have l3 : K3.length = H.length := by rw [hK3, frz_len, l2]
        have vOne : ∀ K, Gr H K → viewA K [r0] = some ([x], frzH ((blkOf r0).toList ++ []) K) := fun K gK => (SeesL.cons (sOne K gK) ((nilL _).mono (by omega)) (by omega)).va (by omega)
        have vAll : ∀ K, Gr H K → viewA K [ALL] = some ([y], frzH (bs2 ++ []) K) := fun K gK => (SeesL.cons (sAll K gK) ((nilL _).mono (by omega)) (by omega)).va (by omega)
        have hb1' : ∀ b ∈ (blkOf r0).toList ++ [], b < H.length := fun b hb => hb1 b (by rw [List.append_nil] at hb; exact hb)
        have hb2' : ∀ b ∈ bs2 ++ [], b < H.length := fun b hb => hb2 b (by rw [List.append_nil] at hb; exact hb)
        have v4 := vOne _ (g3.app [.cells 0 false [.int .i64 1]])
        obtain ⟨o5, K5, x5, w5, g5, l5⟩ := lit_app (xs := [1]) (n := 1) (cl := [.int .i64 1]) g3 (by omega) hb1' (by simp) rfl rfl (isI_v (putRow c0)) (by simp; omega)
        obtain ⟨K4, hK4⟩ : ∃ K4, K4 = frzH ((blkOf r0).toList ++ []) (K3 ++ [.cells 0 false [.int .i64 1]]) := ⟨_, rfl⟩
        rw [← hK4] at v4 x5
        have v6 := vAll _ g5
        obtain ⟨o7, K7, x7, w7, g7, l7⟩ := app_frz w5 (by omega) g5 hb2' (isI_v (putRows ct)) l5 (by simp only [List.length_append, List.length_cons, List.length_nil]; omega)
        obtain ⟨K6, hK6⟩ : ∃ K6, K6 = frzH (bs2 ++ []) K5 := ⟨_, rfl⟩
        rw [← hK6] at v6 x7
        rw [← eqP] at w7
        have v8 := (Own.vw w7).r2 (closeds_cI _) (vI (putC (.pages c0 ct))) (isI_v _).closed
        have v9 := vOne _ (g7.app [.cells 0 false [.int .i64 3]])
        obtain ⟨o10, K10, x10, w10, g10, l10⟩ := lit_app (xs := [3]) (n := 1) (cl := [.int .i64 3]) g7 (by omega) hb1' (by simp) rfl rfl (isI_v (putRow c0)) (by simp; omega)
        obtain ⟨K9, hK9⟩ : ∃ K9, K9 = frzH ((blkOf r0).toList ++ []) (K7 ++ [.cells 0 false [.int .i64 3]]) := ⟨_, rfl⟩
        rw [← hK9] at v9 x10
        rw [← eqR] at w10
        have v11 := (Own.vw w10).r2 (closeds_cI _) (vI (putC (.ring c0))) (isI_v _).closed
        have v12 := vOne _ (g10.app [.cells 0 false [.int .i64 5, .int .i64 a, .int .i64 b]])
        obtain ⟨o13, K13, x13, w13, g13, l13⟩ := lit_app (xs := [5, a, b]) (n := 3) (cl := [.int .i64 5, .int .i64 a, .int .i64 b]) g10 (by omega) hb1' (by simp) rfl rfl (isI_v (putRow c0)) (by simp; omega)
        obtain ⟨K12, hK12⟩ : ∃ K12, K12 = frzH ((blkOf r0).toList ++ []) (K10 ++ [.cells 0 false [.int .i64 5, .int .i64 a, .int .i64 b]]) := ⟨_, rfl⟩
        rw [← hK12] at v12 x13
        rw [← eqG] at w13
        have v14 := (Own.vw w13).r2 (closeds_cI _) (vI (putC (.gap a b c0))) (isI_v _).closed
        have v15 : viewA K13 [vI c0, r0] = some ([vI c0, x], _) := (SeesL.cons ((seesF_closed (isI_v c0).closed).mono (e := 2) (by omega)) (SeesL.cons (sOne K13 g13) ((nilL _).mono (by omega)) (by omega)) (by omega)).va (by omega)
        simp only [rv_false] at v8 v11 v14
        have t1 := (isI_v (putC (.pages c0 ct))).closed
        have t2 := (isI_v (putC (.ring c0))).closed
        have t3 := (isI_v (putC (.gap a b c0))).closed
        have t4 := cvV_closed φ (.pages c0 ct)
        have t5 := cvV_closed φ (.ring c0)
        have t6 := cvV_closed φ (.gap a b c0)
        simp only [cvO, cvV] at r1 r2 r3
        simp only [cvV] at t4 t5 t6
        have u1 := fun K : Heap => viewA_closed (H := K) (vs := [vI (putC (.pages c0 ct))]) (by simp [closeds_cons, t1])
        have u2 := fun K : Heap => viewA_closed (H := K) (vs := [vI (putC (.ring c0))]) (by simp [closeds_cons, t2])
        have u3 := fun K : Heap => viewA_closed (H := K) (vs := [vI (putC (.gap a b c0))]) (by simp [closeds_cons, t3])
        have u4 := fun K : Heap => viewA_closed (H := K) (vs := [.iface (φ 93) (.agg [vI c0, rR ct])]) (by rw [closeds_cons, t4]; rfl)
        have u5 := fun K : Heap => viewA_closed (H := K) (vs := [.iface (φ 97) (.agg [vI c0])]) (by rw [closeds_cons, t5]; rfl)
        have u6 := fun K : Heap => viewA_closed (H := K) (vs := [.iface (φ 89) (.agg [.int .i64 a, .int .i64 b, vI c0])]) (by rw [closeds_cons, t6]; rfl)
        have t7 := (isI_v (putC (.pages c0 ct))).one
        have t8 := (isI_v (putC (.ring c0))).one
        have t9 := (isI_v (putC (.gap a b c0))).one
        generalize putC (.pages c0 ct) = P1 at *
        generalize putC (.ring c0) = P2 at *
        generalize putC (.gap a b c0) = P3 at *
        generalize hRR : rR ct = RR at *
        generalize putRow c0 = PR at *
        generalize putRows ct = PRS at *
        simp [-List.getD_eq_getElem?_getD, -Int.ofNat_toNat, -getElem?_pos, er104_0, er104_1, er104_2, er104_3, er104_4, er104_5, er104_6, er104_8, er104_9, er104_10, er104_11, er104_12, er104_13, er104_14, er104_15, er104_16, er104_17, er104_18, er104_19, er104_20, er104_21, er104_22, er104_23, hlen, hlt', hlt, h11', h11, hsl, hix, hln, hpos, hH, hH0, o1, o2, o3, a1, a2, a3, vP, vR, vG, v4, v6, v8, v9, v11, v12, v14, v15, x5, x7, x10, x13, c1, c2, c3, c4, c5, r1, r2, r3, d1, d2, d3, s1, s2, s3, s4, t1, t2, t3, t4, t5, t6, t7, t8, t9, u1, u2, u3, u4, u5, u6, resK, resVs, resV, pack]
end Go.Ai.G
