/- A part of what the law leans on: the abstract machine, the contracts, the rows. -/
import Derived.Test.YtdpjeplagapdgaaK9
/- cert.source.cert at Pages: what is answered lies behind the source. -/
namespace Go.Ai.G
open Go.Ai
set_option maxRecDepth 100000
set_option linter.unusedSimpArgs false
set_option linter.unusedVariables false
variable {A : AProg} {φ : Nat → Nat}
attribute [local simp ↓] getD_z getD_s hid_k hid_o hid_q hid_v PO_nil PO_none PO_grd PD_nil PD_none PD_grd PDO_N PDO_X PDO_call PDO_calli PDO_callv PSX_N PSX_X PSX_call PSX_calli PSX_callv PSX_inv
  PSX_callp PSX_panic PDO_inv PStep_inv thenC_pan blockC_pan loopC_pan endX_ret endX_norm endX_pan PStep_N PStep_X PStep_call PStep_calli PC_skip PC_lab PC_ret PC_exit PC_reg PC_draw
  PC_seq PC_block PC_loop PC_scope PC_cond thenC_norm thenC_ret thenC_exit blockC_norm blockC_ret blockC_exit loopC_norm loopC_ret loopC_exit endR_ret endR_norm
attribute [local simp] gz PDX_free PDX_eq KI_some n_mki n_tas0 n_tasf PStep_callv resK_none resK_t resK_tt KNO_val KNO_new KNO_ite KNO_map KXO_some KXO_ite KVA_t KVA_f KG_skip KG_tt KG_ff KG_tf KG_ft
  KB_true KB_false KNOD_val KNOD_new KNOD_ite n_mv n_pick n_bin n_eqB n_eqN n_eqS n_un n_conv n_fadd n_faddV n_fld1 n_fldN n_idx n_idxA n_idxV n_idxAV n_ext n_lenS n_lenS0 n_lenV
  n_lenT n_lenA n_min n_max n_build n_mkfn n_slc n_slc0 n_slcV n_slcA n_load1 n_loadN n_load1V n_loadNV n_alloc n_box n_bsl n_mksl n_nilcP n_nilcV n_nilcI n_nilcF x_store x_clear0
  x_clear b_add b_sub b_mul b_eql b_neq b_lss b_leq b_gtr b_geq b_and16 unV ntouch gather hide unhide evalOpd applyOuts int_bne int_beq ite_bool ite_int one_bool cells_bool one_int
  cells_int one_str cells_str one_nilp cells_nilp one_ptr cells_ptr one_nils cells_nils one_sl cells_sl one_nilf cells_nilf one_fn cells_fn one_nili cells_nili one_mp cells_mp
  one_nilm cells_nilm one_iface cells_iface one_vs cells_vs one_vp cells_vp cells_agg Nat.testBit setAt_1 setAt_2 closeds_nil closeds_cons closed_bool closed_int closed_str
  closed_nilp closed_nils closed_nilm closed_nilf closed_nili closed_agg closed_tup closed_vs closed_vp closed_iface closed_fn closeds_cI closeds_cE viewA_closed viewR_closed AV.scal
  AV.scal0 fillA repA part_bool part_int part_str part_nilp part_ptr part_nils part_sl part_nilm part_mp part_nilf part_fn part_nili part_iface part_agg part_vs part_vp viewA_sl1
  vaSl_cells wrap_0 wrap_1 wrap_2 wrap_m1 set_last get_last
set_option maxHeartbeats 4000000 in
theorem w_certP (h : Has A (φ 128) (f128 φ)) (g : CS A φ) {nn : Bool} {P q : Nat} {H : Heap} {xs : List Int} (s : SrcS nn P q H xs) (hn : xs.length < 1000000000000) {o0 : List Int} {c0 : List (List Int)} (hxs : certP xs = some (some (.pages o0 c0), [])) (K Kp : AV → Heap → Prop)
    (hK : ∀ v H' bs, SrcS true P q H' [] → SeesF 8 H' v (cvV φ (.pages o0 c0)) bs → (∀ b ∈ bs, q < b) → Fr q H H' → K v H') : PCallE A (φ 128) [.ptr q 0 0] H K Kp := by
  have hqH := s.lt
  refine pcallE_has h rfl ?_
  simp only [l128_19, l128_22, l128_46, l128_49, b128, f128]
  simp [-List.getD_eq_getElem?_getD, -Int.ofNat_toNat, -getElem?_pos, er128_0, er128_1, er128_2, er128_3, er128_4, er128_5, er128_6, er128_7, er128_8, er128_9, er128_10, er128_11, er128_12, er128_13, er128_14, er128_15, er128_16, er128_17, er128_18, er128_20, er128_21, er128_23, er128_24, er128_25, er128_26, er128_27, er128_28, er128_29, er128_30, er128_31, er128_32, er128_33, er128_34, er128_35, er128_36, er128_37, er128_38, er128_39, er128_40, er128_41, er128_42, er128_43, er128_44, er128_45, er128_47, er128_48, er128_50, er128_51]
  refine w_one g.one s _ _ ?_ fun e => ?_
  rotate_left
  · subst e
    cases hxs
  intro k r H1 e s1 f1
  subst e
  have hr : r.length < 1000000000000 := by simp at hn; omega
  simp only [hid_k]
  have hk1 : k = 1 := by
    have := (certP_iff _ _ _).1 hxs
    have h2 := this.1
    simp only [putC, List.cons_append, List.cons.injEq] at h2
    exact h2.1
  subst hk1
  have hc : certP (1 :: r) = bindP (rowP r) fun o l => bindP (rowsP l) fun c l => some (some (.pages o c), l) := rfl
  rw [hc] at hxs
  simp [-List.getD_eq_getElem?_getD, -Int.ofNat_toNat, -getElem?_pos, er128_0, er128_1, er128_2, er128_3, er128_4, er128_5, er128_6, er128_7, er128_8, er128_9, er128_10, er128_11, er128_12, er128_13, er128_14, er128_15, er128_16, er128_17, er128_18, er128_20, er128_21, er128_23, er128_24, er128_25, er128_26, er128_27, er128_28, er128_29, er128_30, er128_31, er128_32, er128_33, er128_34, er128_35, er128_36, er128_37, er128_38, er128_39, er128_40, er128_41, er128_42, er128_43, er128_44, er128_45, er128_47, er128_48, er128_50, er128_51]
  refine w_row g.row g.count g.one g.clone s1 hr _ _ ?_ fun e => ?_
  rotate_left
  · rw [e] at hxs; cases hxs
  intro o l ov H2 e2 s2 o2 f2 l2 _
  simp only [hid_k]
  rw [e2] at hxs
  simp only [bindP] at hxs
  simp [-List.getD_eq_getElem?_getD, -Int.ofNat_toNat, -getElem?_pos, er128_0, er128_1, er128_2, er128_3, er128_4, er128_5, er128_6, er128_7, er128_8, er128_9, er128_10, er128_11, er128_12, er128_13, er128_14, er128_15, er128_16, er128_17, er128_18, er128_20, er128_21, er128_23, er128_24, er128_25, er128_26, er128_27, er128_28, er128_29, er128_30, er128_31, er128_32, er128_33, er128_34, er128_35, er128_36, er128_37, er128_38, er128_39, er128_40, er128_41, er128_42, er128_43, er128_44, er128_45, er128_47, er128_48, er128_50, er128_51]
  refine w_rows g.rows g.row g.count g.one g.clone s2 (by omega) _ _ ?_ fun e => ?_
  rotate_left
  · rw [e] at hxs; cases hxs
  intro c l3 cv H3 e3 s3 o3 f3 _ _
  simp only [hid_k]
  rw [e3] at hxs
  simp only [Option.some.injEq, Prod.mk.injEq, CV.pages.injEq] at hxs
  obtain ⟨⟨rfl, rfl⟩, rfl⟩ := hxs
  have hq1 := s1.lt
  have hl2 := f2.2
  have o2' : OwnI false H1.length H3 ov o := Own.keep o2 fun b hb hbv => f3.1 b (by have := (Own.blk o2 hbv).1; omega) hb
  obtain ⟨bs, hb, hs⟩ := OwnR.all o3
  have hv := (SeesF.iface (SeesL.agg (SeesL.cons (((Own.vw o2').seesF (closeds_cI o)).mono (e := 4) (by omega)) (SeesL.cons (hs H3 (Gr.refl H3)) ((seesL_nil _).mono (by omega)) (by omega)) (by omega))) (φ 93)).mono (e := 8) (by omega)
  simp only [rv_false] at hv
  have hk := hK (.iface (φ 93) (.agg [ov, cv])) H3 _ s3 hv (fun b hbm => by
    simp only [List.append_nil, List.mem_append] at hbm
    rcases hbm with h | h
    · have := (Own.blk o2' (by simpa using h)).1; omega
    · have := (hb b h).2; omega) (f1.trans (f2.trans f3))
  simp [-List.getD_eq_getElem?_getD, -Int.ofNat_toNat, -getElem?_pos, er128_0, er128_1, er128_2, er128_3, er128_4, er128_5, er128_6, er128_7, er128_8, er128_9, er128_10, er128_11, er128_12, er128_13, er128_14, er128_15, er128_16, er128_17, er128_18, er128_20, er128_21, er128_23, er128_24, er128_25, er128_26, er128_27, er128_28, er128_29, er128_30, er128_31, er128_32, er128_33, er128_34, er128_35, er128_36, er128_37, er128_38, er128_39, er128_40, er128_41, er128_42, er128_43, er128_44, er128_45, er128_47, er128_48, er128_50, er128_51, Own.one o2', Own.cells o2', Own.part o2', o3.one, o3.cells, o3.part, resK, resVs, resV, pack]
  exact hk
end Go.Ai.G
