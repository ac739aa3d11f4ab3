/- A part of what the law leans on: the abstract machine, the contracts, the rows. -/
import Derived.Test.YtgoiomkgedcfjaaK9
import Derived.Test.YtgoiomkgedcfjaaK11
import Derived.Test.YtgoiomkgedcfjaaK7
import Derived.Test.YtgoiomkgedcfjaaK6
import Derived.Test.YtgoiomkgedcfjaaK5
/- What graph.Has and graph.Near tell, against the reference; all contracts together. -/
namespace Go.Ai.G
open Go.Ai
set_option linter.unusedVariables false
set_option linter.unusedSimpArgs false
variable {A : AProg} {φ : Nat → Nat}
def nbo (v : Int) (x : Ed) : List Int := (if x.2 = v then [x.1] else []) ++ (if x.1 = v then [x.2] else [])
theorem nbs_all (v : Int) : ∀ (es : List Ed), es.Pairwise ltE → (∀ x ∈ es, x.1 < x.2) → nbs v es = es.flatMap (nbo v)
  | [], _, _ => rfl
  | x :: l, hp, hx => by
    rw [List.pairwise_cons] at hp
    simp only [nbs]
    split
    · rename_i h
      symm
      rw [List.flatMap_eq_nil_iff]
      intro y hy
      have hxy : x.1 ≤ y.1 := by
        rcases List.mem_cons.1 hy with rfl | hy
        · exact Int.le_refl _
        · have := hp.1 y hy; unfold ltE at this; omega
      have := hx y hy
      simp only [nbo]
      rw [if_neg (by omega), if_neg (by omega)]; rfl
    · rw [List.flatMap_cons, nbs_all v l hp.2 (fun y hy => hx y (List.mem_cons_of_mem _ hy)), nbo]
theorem right_lt {n : Int} {es : List Ed} (h : rightE n es = true) : ∀ x ∈ es, x.1 < x.2 := by
  intro x hx
  obtain ⟨i, hi, rfl⟩ := List.getElem_of_mem hx
  exact (right_step h hi).2.1
theorem has_eq (n : Int) (es : List Ed) (a b : Int) : (nearI n es a).contains b = hasE n es a b := by
  unfold nearI hasE
  cases h : rightE n es with
  | false => simp
  | true =>
    rw [if_pos rfl, nbs_all a es (right_strict h) (right_lt h), Bool.true_and, Bool.eq_iff_iff]
    simp only [List.contains_iff_mem, List.mem_flatMap, nbo, List.mem_append, Bool.or_eq_true, decide_eq_true_eq]
    constructor
    · rintro ⟨⟨x, y⟩, hm, h | h⟩
      · simp only at h; split at h
        · rename_i e; simp at h; subst h; subst e; exact .inr hm
        · simp at h
      · simp only at h; split at h
        · rename_i e; simp at h; subst h; subst e; exact .inl hm
        · simp at h
    · rintro (h | h)
      · exact ⟨_, h, .inr (by simp)⟩
      · exact ⟨_, h, .inl (by simp)⟩
end Go.Ai.G
/- The laws of the chapter on graphs. -/
namespace Go.Ai.G
open Go.Ai
set_option maxRecDepth 100000
set_option linter.unusedSimpArgs false
set_option linter.unusedVariables false
variable {A : AProg} {φ : Nat → Nat}
attribute [local simp ↓] getD_z getD_s hid_k hid_o hid_q hid_v PO_nil PO_none PO_grd PD_nil PD_none PD_grd PDO_N PDO_X PDO_call PDO_calli PDO_callv PStep_N PStep_X PStep_call PStep_calli PC_skip PC_lab
  PC_ret PC_exit PC_reg PC_draw PC_seq PC_block PC_loop PC_scope PC_cond thenC_norm thenC_ret thenC_exit blockC_norm blockC_ret blockC_exit loopC_norm loopC_ret loopC_exit endR_ret
  endR_norm
attribute [local simp] gz PDX_free PDX_eq PStep_callv resK_none resK_t resK_tt KNO_val KNO_new KNO_ite KNO_map KXO_some KXO_ite KVA_t KVA_f KG_skip KG_tt KG_ff KG_tf KG_ft KB_true KB_false KNOD_val
  KNOD_new KNOD_ite n_mv n_pick n_bin n_eqB n_eqN n_eqS n_un n_conv n_fadd n_faddV n_fld1 n_fldN n_idx n_idxA n_idxV n_idxAV n_ext n_lenS n_lenS0 n_lenV n_lenT n_lenA n_min n_max
  n_build n_mkfn n_slc n_slc0 n_slcV n_slcA n_load1 n_loadN n_load1V n_loadNV n_alloc n_box n_bsl n_mksl n_nilcP n_nilcV n_nilcI n_nilcF x_store x_clear0 x_clear b_add b_sub b_mul
  b_eql b_neq b_lss b_leq b_gtr b_geq b_and16 unV ntouch gather hide unhide evalOpd applyOuts int_bne int_beq ite_bool ite_int one_bool cells_bool one_int cells_int one_str cells_str
  one_nilp cells_nilp one_ptr cells_ptr one_nils cells_nils one_sl cells_sl one_nilf cells_nilf one_fn cells_fn one_nili cells_nili one_mp cells_mp one_nilm cells_nilm one_iface
  cells_iface one_vs cells_vs one_vp cells_vp cells_agg Nat.testBit setAt_1 setAt_2 closeds_nil closeds_cons closed_bool closed_int closed_str closed_nilp closed_nils closed_nilm
  closed_nilf closed_nili closed_agg closed_tup closed_vs closed_vp closed_iface closed_fn closeds_cI closeds_cE viewA_closed viewR_closed AV.scal AV.scal0 fillA repA part_bool
  part_int part_str part_nilp part_ptr part_nils part_sl part_nilm part_mp part_nilf part_fn part_nili part_iface part_agg part_vs part_vp viewA_sl1 vaSl_cells wrap_0 wrap_1 wrap_2
  wrap_m1 set_last get_last
theorem right_of {n : Int} {es : List Ed} (h0 : 0 ≤ n) (h1 : n ≤ 1000) (hl : es.length ≤ 4000) (hs : es.Pairwise ltE) (he : ∀ x ∈ es, 0 ≤ x.1 ∧ x.1 < x.2 ∧ x.2 < n) : rightE n es = true := by
  unfold rightE
  rw [Bool.and_eq_true, decide_eq_true_eq, List.all_eq_true]
  refine ⟨⟨h0, h1, hl⟩, fun i hi => ?_⟩
  have hi := List.mem_range.1 hi
  obtain ⟨e1, e2, e3⟩ := he _ (List.getElem_mem hi)
  simp only [stepE, List.getD_eq_getElem?_getD, List.getElem?_eq_getElem hi, Option.getD_some, Bool.and_eq_true, decide_eq_true_eq, Bool.or_eq_true, beq_iff_eq]
  refine ⟨⟨⟨e1, e2⟩, e3⟩, ?_⟩
  by_cases e : i = 0
  · exact .inl e
  · right
    have hi1 : i - 1 < es.length := by omega
    rw [List.getElem?_eq_getElem hi1, Option.getD_some]
    exact (cmpE_neg _ _).2 (List.pairwise_iff_getElem.1 hs (i - 1) i hi1 hi (by omega))
theorem setE_ends {n : Int} {l : List Ed} (h : l.all (okEnds n) = true) : ∀ x ∈ setE l, 0 ≤ x.1 ∧ x.1 < x.2 ∧ x.2 < n := by
  intro x hx
  rw [setE_mem, normsE_mem] at hx
  obtain ⟨y, hy, hne, rfl⟩ := hx
  have := List.all_eq_true.1 h y hy
  simp only [okEnds, Bool.and_eq_true, decide_eq_true_eq] at this
  simp only
  omega
theorem normalE_right {n : Int} {l : List Ed} (h : (normalE n l).2.2 = 0) : rightE (normalE n l).1 (normalE n l).2.1 = true := by
  have hd : normalE n l = if n < 0 then (0, [], 1) else if n > 1000 then (0, [], 5) else if l.all (okEnds n) then (if (setE l).length > 4000 then (0, [], 5) else (n, setE l, 0)) else (0, [], 4) := rfl
  rw [hd] at h ⊢
  by_cases h1 : n < 0
  · simp [h1] at h
  by_cases h2 : n > 1000
  · simp [h1, h2] at h
  by_cases h3 : l.all (okEnds n) = true
  · by_cases h4 : (setE l).length > 4000
    · simp only [h1, h2, h3, h4, if_true, if_false] at h; simp at h
    · simp only [h1, h2, h3, h4, if_true, if_false]
      exact right_of (by omega) (by omega) (by omega) (setE_strict l) (setE_ends h3)
  · simp only [h1, h2, h3, if_false] at h; simp at h
theorem normalE_len (n : Int) (l : List Ed) : (normalE n l).2.1.length ≤ 4000 := by
  unfold normalE
  split; · simp
  split; · simp
  split
  · split
    · simp
    · simp only; omega
  · simp
end Go.Ai.G
/- GraphRight. -/
namespace Go.Ai.G
open Go.Ai
set_option maxRecDepth 100000
set_option linter.unusedSimpArgs false
set_option linter.unusedVariables false
variable {A : AProg} {φ : Nat → Nat}
attribute [local simp ↓] getD_z getD_s hid_k hid_o hid_q hid_v PO_nil PO_none PO_grd PD_nil PD_none PD_grd PDO_N PDO_X PDO_call PDO_calli PDO_callv PStep_N PStep_X PStep_call PStep_calli PC_skip PC_lab
  PC_ret PC_exit PC_reg PC_draw PC_seq PC_block PC_loop PC_scope PC_cond thenC_norm thenC_ret thenC_exit blockC_norm blockC_ret blockC_exit loopC_norm loopC_ret loopC_exit endR_ret
  endR_norm
attribute [local simp] gz PDX_free PDX_eq PStep_callv resK_none resK_t resK_tt KNO_val KNO_new KNO_ite KNO_map KXO_some KXO_ite KVA_t KVA_f KG_skip KG_tt KG_ff KG_tf KG_ft KB_true KB_false KNOD_val
  KNOD_new KNOD_ite n_mv n_pick n_bin n_eqB n_eqN n_eqS n_un n_conv n_fadd n_faddV n_fld1 n_fldN n_idx n_idxA n_idxV n_idxAV n_ext n_lenS n_lenS0 n_lenV n_lenT n_lenA n_min n_max
  n_build n_mkfn n_slc n_slc0 n_slcV n_slcA n_load1 n_loadN n_load1V n_loadNV n_alloc n_box n_bsl n_mksl n_nilcP n_nilcV n_nilcI n_nilcF x_store x_clear0 x_clear b_add b_sub b_mul
  b_eql b_neq b_lss b_leq b_gtr b_geq b_and16 unV ntouch gather hide unhide evalOpd applyOuts int_bne int_beq ite_bool ite_int one_bool cells_bool one_int cells_int one_str cells_str
  one_nilp cells_nilp one_ptr cells_ptr one_nils cells_nils one_sl cells_sl one_nilf cells_nilf one_fn cells_fn one_nili cells_nili one_mp cells_mp one_nilm cells_nilm one_iface
  cells_iface one_vs cells_vs one_vp cells_vp cells_agg Nat.testBit setAt_1 setAt_2 closeds_nil closeds_cons closed_bool closed_int closed_str closed_nilp closed_nils closed_nilm
  closed_nilf closed_nili closed_agg closed_tup closed_vs closed_vp closed_iface closed_fn closeds_cI closeds_cE viewA_closed viewR_closed AV.scal AV.scal0 fillA repA part_bool
  part_int part_str part_nilp part_ptr part_nils part_sl part_nilm part_mp part_nilf part_fn part_nili part_iface part_agg part_vs part_vp viewA_sl1 vaSl_cells wrap_0 wrap_1 wrap_2
  wrap_m1 set_last get_last
end Go.Ai.G
/- GraphAdds. -/
namespace Go.Ai.G
open Go.Ai
set_option maxRecDepth 100000
set_option linter.unusedSimpArgs false
set_option linter.unusedVariables false
variable {A : AProg} {φ : Nat → Nat}
attribute [local simp ↓] getD_z getD_s hid_k hid_o hid_q hid_v PO_nil PO_none PO_grd PD_nil PD_none PD_grd PDO_N PDO_X PDO_call PDO_calli PDO_callv PStep_N PStep_X PStep_call PStep_calli PC_skip PC_lab
  PC_ret PC_exit PC_reg PC_draw PC_seq PC_block PC_loop PC_scope PC_cond thenC_norm thenC_ret thenC_exit blockC_norm blockC_ret blockC_exit loopC_norm loopC_ret loopC_exit endR_ret
  endR_norm
attribute [local simp] gz PDX_free PDX_eq PStep_callv resK_none resK_t resK_tt KNO_val KNO_new KNO_ite KNO_map KXO_some KXO_ite KVA_t KVA_f KG_skip KG_tt KG_ff KG_tf KG_ft KB_true KB_false KNOD_val
  KNOD_new KNOD_ite n_mv n_pick n_bin n_eqB n_eqN n_eqS n_un n_conv n_fadd n_faddV n_fld1 n_fldN n_idx n_idxA n_idxV n_idxAV n_ext n_lenS n_lenS0 n_lenV n_lenT n_lenA n_min n_max
  n_build n_mkfn n_slc n_slc0 n_slcV n_slcA n_load1 n_loadN n_load1V n_loadNV n_alloc n_box n_bsl n_mksl n_nilcP n_nilcV n_nilcI n_nilcF x_store x_clear0 x_clear b_add b_sub b_mul
  b_eql b_neq b_lss b_leq b_gtr b_geq b_and16 unV ntouch gather hide unhide evalOpd applyOuts int_bne int_beq ite_bool ite_int one_bool cells_bool one_int cells_int one_str cells_str
  one_nilp cells_nilp one_ptr cells_ptr one_nils cells_nils one_sl cells_sl one_nilf cells_nilf one_fn cells_fn one_nili cells_nili one_mp cells_mp one_nilm cells_nilm one_iface
  cells_iface one_vs cells_vs one_vp cells_vp cells_agg Nat.testBit setAt_1 setAt_2 closeds_nil closeds_cons closed_bool closed_int closed_str closed_nilp closed_nils closed_nilm
  closed_nilf closed_nili closed_agg closed_tup closed_vs closed_vp closed_iface closed_fn closeds_cI closeds_cE viewA_closed viewR_closed AV.scal AV.scal0 fillA repA part_bool
  part_int part_str part_nilp part_ptr part_nils part_sl part_nilm part_mp part_nilf part_fn part_nili part_iface part_agg part_vs part_vp viewA_sl1 vaSl_cells wrap_0 wrap_1 wrap_2
  wrap_m1 set_last get_last
theorem get_at (F J : Heap) (k : Nat) : (F ++ J)[F.length + k]? = J[k]? := by rw [List.getElem?_append_right (by omega)]; congr 1; omega
theorem get_at0 (F J : Heap) : (F ++ J)[F.length]? = J[0]? := get_at F J 0
theorem set_at (F J : Heap) (k : Nat) (x : Ob) : (F ++ J).set (F.length + k) x = F ++ J.set k x := by rw [List.set_append_right _ _ (by omega)]; congr 2; omega
theorem set_at0 (F J : Heap) (x : Ob) : (F ++ J).set F.length x = F ++ J.set 0 x := set_at F J 0 x
end Go.Ai.G
/- GraphBack. -/
namespace Go.Ai.G
open Go.Ai
set_option maxRecDepth 100000
set_option linter.unusedSimpArgs false
set_option linter.unusedVariables false
variable {A : AProg} {φ : Nat → Nat}
attribute [local simp ↓] getD_z getD_s hid_k hid_o hid_q hid_v PO_nil PO_none PO_grd PD_nil PD_none PD_grd PDO_N PDO_X PDO_call PDO_calli PDO_callv PStep_N PStep_X PStep_call PStep_calli PC_skip PC_lab
  PC_ret PC_exit PC_reg PC_draw PC_seq PC_block PC_loop PC_scope PC_cond thenC_norm thenC_ret thenC_exit blockC_norm blockC_ret blockC_exit loopC_norm loopC_ret loopC_exit endR_ret
  endR_norm
attribute [local simp] gz PDX_free PDX_eq PStep_callv resK_none resK_t resK_tt KNO_val KNO_new KNO_ite KNO_map KXO_some KXO_ite KVA_t KVA_f KG_skip KG_tt KG_ff KG_tf KG_ft KB_true KB_false KNOD_val
  KNOD_new KNOD_ite n_mv n_pick n_bin n_eqB n_eqN n_eqS n_un n_conv n_fadd n_faddV n_fld1 n_fldN n_idx n_idxA n_idxV n_idxAV n_ext n_lenS n_lenS0 n_lenV n_lenT n_lenA n_min n_max
  n_build n_mkfn n_slc n_slc0 n_slcV n_slcA n_load1 n_loadN n_load1V n_loadNV n_alloc n_box n_bsl n_mksl n_nilcP n_nilcV n_nilcI n_nilcF x_store x_clear0 x_clear b_add b_sub b_mul
  b_eql b_neq b_lss b_leq b_gtr b_geq b_and16 unV ntouch gather hide unhide evalOpd applyOuts int_bne int_beq ite_bool ite_int one_bool cells_bool one_int cells_int one_str cells_str
  one_nilp cells_nilp one_ptr cells_ptr one_nils cells_nils one_sl cells_sl one_nilf cells_nilf one_fn cells_fn one_nili cells_nili one_mp cells_mp one_nilm cells_nilm one_iface
  cells_iface one_vs cells_vs one_vp cells_vp cells_agg Nat.testBit setAt_1 setAt_2 closeds_nil closeds_cons closed_bool closed_int closed_str closed_nilp closed_nils closed_nilm
  closed_nilf closed_nili closed_agg closed_tup closed_vs closed_vp closed_iface closed_fn closeds_cI closeds_cE viewA_closed viewR_closed AV.scal AV.scal0 fillA repA part_bool
  part_int part_str part_nilp part_ptr part_nils part_sl part_nilm part_mp part_nilf part_fn part_nili part_iface part_agg part_vs part_vp viewA_sl1 vaSl_cells wrap_0 wrap_1 wrap_2
  wrap_m1 set_last get_last
theorem any_right (n : Int) (l : List Ed) {most : Int} (h0 : 0 ≤ most) (h1 : most ≤ 1000) : rightE (anyN n most) (anyE n most l) = true := by
  have := @normalE_right (anyN n most) (anyL (anyN n most) l)
  rw [any_normal l h0 h1] at this
  exact this rfl
theorem anyE_len (n most : Int) (l : List Ed) : (anyE n most l).length ≤ 300 := Nat.le_trans (setE_le _) (anyL_len _ _)
theorem right_ends {n : Int} {es : List Ed} (h : rightE n es = true) : ∀ x ∈ es, 0 ≤ x.1 ∧ x.1 < x.2 ∧ x.2 < n := by
  intro x hx
  obtain ⟨i, hi, rfl⟩ := List.getElem_of_mem hx
  exact right_step h hi
end Go.Ai.G
/- sub.names.renamed. -/
namespace Go.Ai.G
open Go.Ai
set_option maxRecDepth 100000
set_option linter.unusedSimpArgs false
set_option linter.unusedVariables false
variable {A : AProg} {φ : Nat → Nat}
attribute [local simp ↓] getD_z getD_s hid_k hid_o hid_q hid_v PO_nil PO_none PO_grd PD_nil PD_none PD_grd PDO_N PDO_X PDO_call PDO_calli PDO_callv PStep_N PStep_X PStep_call PStep_calli PC_skip PC_lab
  PC_ret PC_exit PC_reg PC_draw PC_seq PC_block PC_loop PC_scope PC_cond thenC_norm thenC_ret thenC_exit blockC_norm blockC_ret blockC_exit loopC_norm loopC_ret loopC_exit endR_ret
  endR_norm
attribute [local simp] gz PDX_free PDX_eq PStep_callv resK_none resK_t resK_tt KNO_val KNO_new KNO_ite KNO_map KXO_some KXO_ite KVA_t KVA_f KG_skip KG_tt KG_ff KG_tf KG_ft KB_true KB_false KNOD_val
  KNOD_new KNOD_ite n_mv n_pick n_bin n_eqB n_eqN n_eqS n_un n_conv n_fadd n_faddV n_fld1 n_fldN n_idx n_idxA n_idxV n_idxAV n_ext n_lenS n_lenS0 n_lenV n_lenT n_lenA n_min n_max
  n_build n_mkfn n_slc n_slc0 n_slcV n_slcA n_load1 n_loadN n_load1V n_loadNV n_alloc n_box n_bsl n_mksl n_nilcP n_nilcV n_nilcI n_nilcF x_store x_clear0 x_clear b_add b_sub b_mul
  b_eql b_neq b_lss b_leq b_gtr b_geq b_and16 unV ntouch gather hide unhide evalOpd applyOuts int_bne int_beq ite_bool ite_int one_bool cells_bool one_int cells_int one_str cells_str
  one_nilp cells_nilp one_ptr cells_ptr one_nils cells_nils one_sl cells_sl one_nilf cells_nilf one_fn cells_fn one_nili cells_nili one_mp cells_mp one_nilm cells_nilm one_iface
  cells_iface one_vs cells_vs one_vp cells_vp cells_agg Nat.testBit setAt_1 setAt_2 closeds_nil closeds_cons closed_bool closed_int closed_str closed_nilp closed_nils closed_nilm
  closed_nilf closed_nili closed_agg closed_tup closed_vs closed_vp closed_iface closed_fn closeds_cI closeds_cE viewA_closed viewR_closed AV.scal AV.scal0 fillA repA part_bool
  part_int part_str part_nilp part_ptr part_nils part_sl part_nilm part_mp part_nilf part_fn part_nili part_iface part_agg part_vs part_vp viewA_sl1 vaSl_cells wrap_0 wrap_1 wrap_2
  wrap_m1 set_last get_last
theorem er54_0 (φ : Nat → Nat) : r54_0 φ = [
  ⟨0, .N .box, [.n 0], none, 0⟩,
  ⟨1, .N .box, [.n 1], none, 0⟩,
  ⟨2, .N (.alloc [.int .i64 0, .nils]), [], none, 0⟩,
  ⟨3, .N .mv, [.c (.int .i64 0)], none, 0⟩] := Eq.trans rfl rfl
theorem er54_1 (φ : Nat → Nat) : r54_1 φ = [
  ⟨0, .N .mv, [.c (.nils)], none, 0⟩] := Eq.trans rfl rfl
theorem er54_2 (φ : Nat → Nat) : r54_2 φ = [
  ⟨0, .N (.fadd 1), [.n 3], none, 0⟩,
  ⟨1, .N .load1, [.l 0], none, 0⟩,
  ⟨2, .N .lenS, [.l 0], none, 0⟩,
  ⟨3, .N .mv, [.c (.int .i64 0)], none, 0⟩] := Eq.trans rfl rfl
theorem er54_3 (φ : Nat → Nat) : r54_3 φ = [
  ⟨0, .N (.bin .lss), [.n 12, .n 11], none, 0⟩] := Eq.trans rfl rfl
theorem er54_4 (φ : Nat → Nat) : r54_4 φ = [
  ⟨0, .N (.idx 2), [.n 10, .n 12], none, 0⟩,
  ⟨1, .N (.loadN 2), [.l 0], none, 0⟩,
  ⟨2, .N (.alloc [.int .i64 0, .int .i64 0]), [], none, 0⟩,
  ⟨3, .X (.store 2), [.l 0, .l 1], none, 0⟩] := Eq.trans rfl rfl
theorem er54_5 (φ : Nat → Nat) : r54_5 φ = [
  ⟨0, .N (.fadd 1), [.n 2], none, 0⟩,
  ⟨1, .N .load1, [.l 0], none, 1⟩,
  ⟨2, .N (.fadd 0), [.n 7], none, 0⟩,
  ⟨3, .N .load1, [.l 0], none, 4⟩,
  ⟨5, .N (.fadd 1), [.n 2], none, 0⟩,
  ⟨6, .N .load1, [.l 0], none, 16⟩,
  ⟨7, .N (.fadd 1), [.n 7], none, 0⟩,
  ⟨8, .N .load1, [.l 0], none, 64⟩,
  ⟨4, .callv, [.l 6, .l 4], none, 15⟩,
  ⟨9, .callv, [.l 3, .l 1], none, 511⟩,
  ⟨10, .N .mv, [.l 1], none, 1023⟩,
  ⟨11, .N .mv, [.l 1], none, 2047⟩] := Eq.trans rfl rfl
theorem er54_6 (φ : Nat → Nat) : r54_6 φ = [
  ⟨0, .N .mv, [.n 8], none, 0⟩,
  ⟨1, .N (.bin .geq), [.l 0, .c (.int .i64 0)], none, 0⟩,
  ⟨2, .N .mv, [.l 0], none, 0⟩,
  ⟨3, .N .mv, [.n 9], some (.l 0, true), 0⟩,
  ⟨4, .N (.bin .geq), [.l 0, .c (.int .i64 0)], some (.l 1, true), 0⟩,
  ⟨5, .N .pick, [.l 2, .l 0, .c (.bool false)], none, 0⟩] := Eq.trans rfl rfl
theorem er54_7 (φ : Nat → Nat) : r54_7 φ = [
  ⟨0, .N .mv, [.n 6], none, 0⟩,
  ⟨1, .N .mv, [.n 8], none, 0⟩,
  ⟨2, .N .mv, [.n 9], none, 0⟩,
  ⟨3, .N (.build [.int .i64 0, .int .i64 0] [(0, 1), (1, 1)]), [.l 1, .l 0], none, 0⟩,
  ⟨4, .N (.bsl [.int .i64 0, .int .i64 0] 1 2 [(0, 2)]), [.l 0], none, 0⟩,
  ⟨5, .X (.app 2 16), [.l 4, .l 0], none, 0⟩,
  ⟨6, .N .mv, [.l 0], none, 0⟩] := Eq.trans rfl rfl
theorem er54_8 (φ : Nat → Nat) : r54_8 φ = [
  ⟨0, .N (.bin .add), [.n 12, .c (.int .i64 1)], none, 0⟩,
  ⟨1, .N .mv, [.l 0], none, 0⟩] := Eq.trans rfl rfl
theorem er54_10 (φ : Nat → Nat) : r54_10 φ = [
  ⟨0, .N (.fadd 0), [.n 2], none, 0⟩,
  ⟨1, .N .load1, [.l 0], none, 0⟩,
  ⟨2, .N .mv, [.n 6], none, 0⟩,
  ⟨3, .calli false (φ 1), [.l 1, .l 0], none, 0⟩,
  ⟨4, .N (.ext 0), [.l 0], none, 0⟩,
  ⟨5, .N (.ext 1), [.l 1], none, 0⟩,
  ⟨6, .X (.store 2), [.n 4, .l 1], none, 0⟩,
  ⟨7, .N .mv, [.l 1], none, 0⟩] := Eq.trans rfl rfl
theorem er53_0 (φ : Nat → Nat) : r53_0 φ = [
  ⟨0, .N .mv, [.c (.int .i64 0)], none, 0⟩] := Eq.trans rfl rfl
theorem er53_1 (φ : Nat → Nat) : r53_1 φ = [
  ⟨0, .N .load1, [.n 1], none, 0⟩,
  ⟨1, .N .mv, [.n 0], none, 0⟩,
  ⟨2, .N (.idx 1), [.l 1, .l 0], none, 0⟩,
  ⟨3, .N .load1, [.l 0], none, 0⟩,
  ⟨4, .N (.bin .sub), [.l 0, .c (.int .i64 1)], none, 0⟩,
  ⟨5, .N .mv, [.l 0], none, 0⟩] := Eq.trans rfl rfl
/-- The edges under other names; what has none is left out. -/
def mapE (f : Int → Int) (es : List Ed) : List Ed := (es.map fun e => (f e.1, f e.2)).filter fun e => decide (0 ≤ e.1) && decide (0 ≤ e.2)
theorem mapE_snoc (f : Int → Int) (es : List Ed) (x : Ed) : mapE f (es ++ [x]) = mapE f es ++ (if 0 ≤ f x.1 ∧ 0 ≤ f x.2 then [(f x.1, f x.2)] else []) := by
  simp only [mapE, List.map_append, List.filter_append, List.map_cons, List.map_nil]
  congr 1
  by_cases h1 : 0 ≤ f x.1 <;> by_cases h2 : 0 ≤ f x.2 <;> simp [h1, h2]
theorem mapE_len (f : Int → Int) (es : List Ed) : (mapE f es).length ≤ es.length := by
  unfold mapE
  exact Nat.le_trans (List.length_filter_le _ _) (by simp)
set_option maxHeartbeats 1000000 in
theorem w_renamed (h : Has A (φ 54) (f54 φ)) (hN : NormalC A (φ 1)) (f : Int → Int) (fid : Nat) (cap : AV) (m N : Int) (u : AV) (es : List Ed) (hv : IsE u es) (hn : es.length ≤ 4000) (H : Heap) {K : AV → Heap → Prop} (hcap : cap.one = true)
    (hclo : ∀ e ∈ es, ∀ x, x = e.1 ∨ x = e.2 → ∀ (H' : Heap) (K' : AV → Heap → Prop), (∀ b, b < H.length → H'[b]? = H[b]?) → K' (.int .i64 (f x)) H' → PCall A fid [.int .i64 x, cap] H' K')
    (hk : ∀ H', (∀ b, b < H.length → H'[b]? = H[b]?) → H.length ≤ H'.length → K (nR m (mapE f es)) H') : PCall A (φ 54) [.agg [.int .i64 m, .fn (.func fid) [] [cap]], gV N u] H K := by
  have hlen := hv.len
  have hone := hv.one
  refine pcall_has h rfl ?_
  simp only [l54_9, b54, f54]
  simp [-List.getD_eq_getElem?_getD, -Int.ofNat_toNat, -getElem?_pos, er54_0, er54_1, er54_2, er54_3, er54_4, er54_5, er54_6, er54_7, er54_8, er54_10, hlen, hone, get_at, get_at0, set_at, set_at0]
  refine pc_loopI (fun k st => ∃ (i : Nat) (l x a b p13 p14 : AV) (H' : Heap), i + k = es.length ∧ OwnE true (H.length + 3) H' l (mapE f (es.take i)) ∧
      H'[H.length]? = some (.cells 0 false [.int .i64 m, .fn (.func fid) [] [cap]]) ∧ H'[H.length + 1]? = some (.cells 0 false [.int .i64 N, u]) ∧ H'[H.length + 2]? = some (.cells 0 false [.int .i64 0, .nils]) ∧ (∀ b, b < H.length → H'[b]? = H[b]?) ∧
      st = ([.agg [.int .i64 m, .fn (.func fid) [] [cap]], gV N u, .ptr H.length 0 0, .ptr (H.length + 1) 0 0, .ptr (H.length + 2) 0 0, .int .i64 0, l, x, a, b, u, .int .i64 es.length, .int .i64 i, p13, p14], H')) es.length
      ⟨0, _, _, _, _, _, _, _, by simp, own_nil _ _ _, get_at0 _ _, get_at _ _ 1, get_at _ _ 2, fun b hb => List.getElem?_append_left hb, rfl⟩ ?_
  rintro k st ⟨i, l, x, a, b, p13, p14, H', hi, ho, g0, g1, g2, hold, rfl⟩
  have hb2 := lt_of_get g2
  by_cases hlt : i < es.length
  · have hlt' : (i : Int) < es.length := by omega
    obtain ⟨i1, z1, z2, le1, t1⟩ := hv.at hlt
    have hw1 := wrap1 hlt (by omega)
    have hts : mapE f (es.take (i + 1)) = mapE f (es.take i) ++ (if 0 ≤ f es[i].1 ∧ 0 ≤ f es[i].2 then [(f es[i].1, f es[i].2)] else []) := by rw [List.take_succ_eq_append_getElem hlt, mapE_snoc]
    have hmem := List.getElem_mem hlt
    generalize es[i] = e at *
    have g0J : ∀ J, (H' ++ J)[H.length]? = some (.cells 0 false [.int .i64 m, .fn (.func fid) [] [cap]]) := fun J => get_more J g0
    simp [-List.getD_eq_getElem?_getD, -Int.ofNat_toNat, -getElem?_pos, er54_0, er54_1, er54_2, er54_3, er54_4, er54_5, er54_6, er54_7, er54_8, er54_10, hlt', i1, z1, z2, le1, t1, g0, g0J, get_at, get_at0, set_at, set_at0, PDX_eq]
    have hk1 : ∀ b, b < H.length → (H' ++ [.cells 0 false [.int .i64 e.1, .int .i64 e.2]])[b]? = H[b]? := fun b hb => by
      rw [List.getElem?_append_left (by omega)]; exact hold b hb
    refine hclo e hmem e.1 (.inl rfl) _ _ hk1 ?_
    simp only [hid_k]
    refine ⟨fun b _ => trivial, ?_⟩
    simp [-List.getD_eq_getElem?_getD, -Int.ofNat_toNat, -getElem?_pos, er54_0, er54_1, er54_2, er54_3, er54_4, er54_5, er54_6, er54_7, er54_8, er54_10, PDX_eq]
    refine hclo e hmem e.2 (.inr rfl) _ _ hk1 ?_
    simp only [hid_k]
    refine ⟨fun b _ => trivial, ?_⟩
    have hml := mapE_len f (es.take i)
    have hml2 : (es.take i).length ≤ es.length := by simp; omega
    obtain ⟨l1, H1, x1, x2, x3, x4, x5, x6⟩ := OwnE.app1 (ho.more [.cells 0 false [.int .i64 e.1, .int .i64 e.2]]) (f e.1) (f e.2) (by simp; omega) (by omega)
    simp only [List.append_assoc, List.cons_append, List.nil_append, List.length_append, List.length_cons, List.length_nil, Nat.zero_add] at x1
    by_cases q : 0 ≤ f e.1 ∧ 0 ≤ f e.2
    · rw [if_pos q] at hts
      obtain ⟨q1, q2⟩ := q
      simp [-List.getD_eq_getElem?_getD, -Int.ofNat_toNat, -getElem?_pos, er54_0, er54_1, er54_2, er54_3, er54_4, er54_5, er54_6, er54_7, er54_8, er54_10, q1, q2, x1, hw1]
      refine next_mk (k - 1) (by omega) ⟨i + 1, l1, _, _, _, _, _, H1, by omega, by rw [hts]; exact x2, ?_, ?_, ?_, fun b hb => ?_, rfl⟩
      · rw [x3 _ (by omega)]; exact g0J _
      · rw [x3 _ (by omega)]; exact get_more _ g1
      · rw [x3 _ (by omega)]; exact get_more _ g2
      · rw [x3 _ (by omega)]; exact hk1 b hb
    · rw [if_neg q, List.append_nil] at hts
      have fin : nextC (fun k st => ∃ (i : Nat) (l x a b p13 p14 : AV) (H' : Heap), i + k = es.length ∧ OwnE true (H.length + 3) H' l (mapE f (es.take i)) ∧
      H'[H.length]? = some (.cells 0 false [.int .i64 m, .fn (.func fid) [] [cap]]) ∧ H'[H.length + 1]? = some (.cells 0 false [.int .i64 N, u]) ∧ H'[H.length + 2]? = some (.cells 0 false [.int .i64 0, .nils]) ∧ (∀ b, b < H.length → H'[b]? = H[b]?) ∧
      st = ([.agg [.int .i64 m, .fn (.func fid) [] [cap]], gV N u, .ptr H.length 0 0, .ptr (H.length + 1) 0 0, .ptr (H.length + 2) 0 0, .int .i64 0, l, x, a, b, u, .int .i64 es.length, .int .i64 i, p13, p14], H')) () k
        ([.agg [.int .i64 m, .fn (.func fid) [] [cap]], gV N u, .ptr H.length 0 0, .ptr (H.length + 1) 0 0, .ptr (H.length + 2) 0 0, .int .i64 0, l, .ptr H'.length 0 0, .int .i64 (f e.1), .int .i64 (f e.2), u, .int .i64 es.length, .int .i64 ((i : Int) + 1), .bool true, .bool false], H' ++ [.cells 0 false [.int .i64 e.1, .int .i64 e.2]]) := by
        exact next_mk (k - 1) (by omega) ⟨i + 1, l, _, _, _, _, _, _, by omega, by rw [hts]; exact ho.more _, g0J _, get_more _ g1, get_more _ g2, hk1, rfl⟩
      by_cases q1 : 0 ≤ f e.1
      · have q2 : ¬ 0 ≤ f e.2 := fun h => q ⟨q1, h⟩
        simp [-List.getD_eq_getElem?_getD, -Int.ofNat_toNat, -getElem?_pos, er54_0, er54_1, er54_2, er54_3, er54_4, er54_5, er54_6, er54_7, er54_8, er54_10, q1, q2, hw1]
        simpa using fin
      · simp [-List.getD_eq_getElem?_getD, -Int.ofNat_toNat, -getElem?_pos, er54_0, er54_1, er54_2, er54_3, er54_4, er54_5, er54_6, er54_7, er54_8, er54_10, q1, hw1]
        simpa using fin
  · have hlt' : ¬ (i : Int) < es.length := by omega
    have htk : es.take i = es := List.take_of_length_le (by omega)
    rw [htk] at ho
    have hml := mapE_len f es
    have va := (Own.vw ho).r2 (closeds_cE _) (.int .i64 m) rfl
    have hbo : ∀ b, blkOf l = some b → H.length + 3 ≤ b := fun b hb => (Own.blk ho hb).1
    have hF : ∀ b, b < H.length + 3 → (frzOf H' l)[b]? = H'[b]? := fun b hb => frzOf_get _ _ (fun h => by have := hbo b h; omega)
    have hFl := frzOf_len H' l
    have i1 : IsE (rv true (mapE f es).length 2 (cellsE (mapE f es))) (mapE f es) := is_rv (cellsE_length _) (closeds_cE _)
    have c1 := (hN m _ (mapE f es) i1 (by omega)).eq
    have f0 := (hF H.length (by omega)).trans g0
    have f2 := (hF (H.length + 2) (by omega)).trans g2
    generalize frzOf H' l = F at *
    generalize hu1 : rv true (mapE f es).length 2 (cellsE (mapE f es)) = u1 at *
    have hxl := normalE_len m (mapE f es)
    simp only [nR] at c1 hk
    generalize normalE m (mapE f es) = y at *
    have iy := isE_r y.2.1
    have hset : ∀ z, (F.set (H.length + 2) z)[H.length + 2]? = some z := fun z => List.getElem?_set_self (by omega)
    simp [-List.getD_eq_getElem?_getD, -Int.ofNat_toNat, -getElem?_pos, er54_0, er54_1, er54_2, er54_3, er54_4, er54_5, er54_6, er54_7, er54_8, er54_10, hlt', g0, va, c1, f0, f2, iy.one, iy.cells, iy.closed, hset, resK, resVs, resV, pack]
    refine hk _ (fun b hb => ?_) (by simp; omega)
    rw [List.getElem?_set_ne (by omega), hF b (by omega)]; exact hold b hb
end Go.Ai.G
/- sub.Induced. -/
namespace Go.Ai.G
open Go.Ai
set_option maxRecDepth 100000
set_option linter.unusedSimpArgs false
set_option linter.unusedVariables false
variable {A : AProg} {φ : Nat → Nat}
attribute [local simp ↓] getD_z getD_s hid_k hid_o hid_q hid_v PO_nil PO_none PO_grd PD_nil PD_none PD_grd PDO_N PDO_X PDO_call PDO_calli PDO_callv PStep_N PStep_X PStep_call PStep_calli PC_skip PC_lab
  PC_ret PC_exit PC_reg PC_draw PC_seq PC_block PC_loop PC_scope PC_cond thenC_norm thenC_ret thenC_exit blockC_norm blockC_ret blockC_exit loopC_norm loopC_ret loopC_exit endR_ret
  endR_norm
attribute [local simp] gz PDX_free PDX_eq PStep_callv resK_none resK_t resK_tt KNO_val KNO_new KNO_ite KNO_map KXO_some KXO_ite KVA_t KVA_f KG_skip KG_tt KG_ff KG_tf KG_ft KB_true KB_false KNOD_val
  KNOD_new KNOD_ite n_mv n_pick n_bin n_eqB n_eqN n_eqS n_un n_conv n_fadd n_faddV n_fld1 n_fldN n_idx n_idxA n_idxV n_idxAV n_ext n_lenS n_lenS0 n_lenV n_lenT n_lenA n_min n_max
  n_build n_mkfn n_slc n_slc0 n_slcV n_slcA n_load1 n_loadN n_load1V n_loadNV n_alloc n_box n_bsl n_mksl n_nilcP n_nilcV n_nilcI n_nilcF x_store x_clear0 x_clear b_add b_sub b_mul
  b_eql b_neq b_lss b_leq b_gtr b_geq b_and16 unV ntouch gather hide unhide evalOpd applyOuts int_bne int_beq ite_bool ite_int one_bool cells_bool one_int cells_int one_str cells_str
  one_nilp cells_nilp one_ptr cells_ptr one_nils cells_nils one_sl cells_sl one_nilf cells_nilf one_fn cells_fn one_nili cells_nili one_mp cells_mp one_nilm cells_nilm one_iface
  cells_iface one_vs cells_vs one_vp cells_vp cells_agg Nat.testBit setAt_1 setAt_2 closeds_nil closeds_cons closed_bool closed_int closed_str closed_nilp closed_nils closed_nilm
  closed_nilf closed_nili closed_agg closed_tup closed_vs closed_vp closed_iface closed_fn closeds_cI closeds_cE viewA_closed viewR_closed AV.scal AV.scal0 fillA repA part_bool
  part_int part_str part_nilp part_ptr part_nils part_sl part_nilm part_mp part_nilf part_fn part_nili part_iface part_agg part_vs part_vp viewA_sl1 vaSl_cells wrap_0 wrap_1 wrap_2
  wrap_m1 set_last get_last
theorem er40_0 (φ : Nat → Nat) : r40_0 φ = [
  ⟨0, .N .box, [.n 0], none, 0⟩,
  ⟨1, .N (.alloc [.int .i64 0, .nils]), [], none, 0⟩,
  ⟨2, .N .mv, [.c (.int .i64 0)], none, 0⟩] := Eq.trans rfl rfl
theorem er40_1 (φ : Nat → Nat) : r40_1 φ = [
  ⟨0, .N (.loadN 2), [.n 2], none, 0⟩,
  ⟨1, .calli true (φ 4), [.l 0], none, 0⟩,
  ⟨2, .N (.un .not), [.l 0], none, 0⟩] := Eq.trans rfl rfl
theorem er40_2 (φ : Nat → Nat) : r40_2 φ = [
  ⟨0, .N (.build [.int .i64 0, .nils] []), [], none, 0⟩,
  ⟨1, .X (.store 2), [.n 3, .l 0], none, 0⟩,
  ⟨2, .N .mv, [.c (.int .i64 1)], none, 0⟩] := Eq.trans rfl rfl
theorem er40_3 (φ : Nat → Nat) : r40_3 φ = [
  ⟨0, .N (.fadd 0), [.n 2], none, 0⟩,
  ⟨1, .N .load1, [.l 0], none, 0⟩,
  ⟨2, .N (.mksl [.int .i64 0] 1 8), [.l 0, .l 0], none, 0⟩,
  ⟨3, .N (.alloc [.nils]), [], none, 0⟩,
  ⟨4, .X (.store 1), [.l 0, .l 1], none, 0⟩] := Eq.trans rfl rfl
theorem er40_4 (φ : Nat → Nat) : r40_4 φ = [
  ⟨0, .N .mv, [.c (.bool false)], none, 0⟩] := Eq.trans rfl rfl
theorem er40_5 (φ : Nat → Nat) : r40_5 φ = [
  ⟨0, .N .mv, [.n 1], none, 0⟩,
  ⟨1, .N .lenS, [.l 0], none, 0⟩,
  ⟨2, .N .mv, [.c (.int .i64 0)], none, 0⟩] := Eq.trans rfl rfl
theorem er40_6 (φ : Nat → Nat) : r40_6 φ = [
  ⟨0, .N (.bin .lss), [.n 12, .n 11], none, 0⟩] := Eq.trans rfl rfl
theorem er40_7 (φ : Nat → Nat) : r40_7 φ = [
  ⟨0, .N .mv, [.n 12], none, 0⟩,
  ⟨1, .N (.idx 1), [.n 10, .n 12], none, 0⟩,
  ⟨2, .N .load1, [.l 0], none, 0⟩,
  ⟨3, .N .mv, [.l 2], none, 0⟩,
  ⟨4, .N .mv, [.l 1], none, 0⟩] := Eq.trans rfl rfl
theorem er40_8 (φ : Nat → Nat) : r40_8 φ = [
  ⟨0, .N .mv, [.n 8], none, 0⟩,
  ⟨1, .N (.bin .lss), [.l 0, .c (.int .i64 0)], none, 0⟩,
  ⟨2, .N .mv, [.l 0], none, 0⟩,
  ⟨3, .N .mv, [.n 8], some (.l 0, false), 0⟩,
  ⟨4, .N (.fadd 0), [.n 2], some (.l 1, false), 0⟩,
  ⟨5, .N .load1, [.l 0], some (.l 2, false), 0⟩,
  ⟨6, .N (.bin .geq), [.l 2, .l 0], some (.l 3, false), 0⟩,
  ⟨7, .N .pick, [.l 4, .c (.bool true), .l 0], none, 0⟩] := Eq.trans rfl rfl
theorem er40_9 (φ : Nat → Nat) : r40_9 φ = [
  ⟨0, .N (.build [.int .i64 0, .nils] []), [], none, 0⟩,
  ⟨1, .X (.store 2), [.n 3, .l 0], none, 0⟩,
  ⟨2, .N .mv, [.c (.int .i64 4)], none, 0⟩] := Eq.trans rfl rfl
theorem er40_10 (φ : Nat → Nat) : r40_10 φ = [
  ⟨0, .N .mv, [.n 6], none, 0⟩,
  ⟨1, .N .mv, [.l 0], none, 0⟩,
  ⟨2, .N .load1, [.n 5], some (.l 0, false), 0⟩,
  ⟨3, .N .mv, [.n 8], some (.l 1, false), 0⟩,
  ⟨4, .N (.idx 1), [.l 1, .l 0], some (.l 2, false), 0⟩,
  ⟨5, .N .load1, [.l 0], some (.l 3, false), 0⟩,
  ⟨6, .N (.bin .gtr), [.l 0, .c (.int .i64 0)], some (.l 4, false), 0⟩,
  ⟨7, .N .pick, [.l 5, .c (.bool true), .l 0], none, 0⟩,
  ⟨8, .N .mv, [.l 0], none, 0⟩] := Eq.trans rfl rfl
theorem er40_11 (φ : Nat → Nat) : r40_11 φ = [
  ⟨0, .N .load1, [.n 5], none, 0⟩,
  ⟨1, .N .mv, [.n 8], none, 0⟩,
  ⟨2, .N .mv, [.n 7], none, 0⟩,
  ⟨3, .N (.bin .add), [.l 0, .c (.int .i64 1)], none, 0⟩,
  ⟨4, .N (.idx 1), [.l 3, .l 2], none, 0⟩,
  ⟨5, .X (.store 1), [.l 0, .l 1], none, 0⟩] := Eq.trans rfl rfl
theorem er40_12 (φ : Nat → Nat) : r40_12 φ = [
  ⟨0, .N (.bin .add), [.n 12, .c (.int .i64 1)], none, 0⟩,
  ⟨1, .N .mv, [.l 0], none, 0⟩] := Eq.trans rfl rfl
theorem er40_14 (φ : Nat → Nat) : r40_14 φ = [
  ⟨0, .N .mv, [.n 6], none, 0⟩] := Eq.trans rfl rfl
theorem er40_15 (φ : Nat → Nat) : r40_15 φ = [
  ⟨0, .N (.build [.int .i64 0, .nils] []), [], none, 0⟩,
  ⟨1, .X (.store 2), [.n 3, .l 0], none, 0⟩,
  ⟨2, .N .mv, [.c (.int .i64 1)], none, 0⟩] := Eq.trans rfl rfl
theorem er40_16 (φ : Nat → Nat) : r40_16 φ = [
  ⟨0, .N .mv, [.n 1], none, 0⟩,
  ⟨1, .N .lenS, [.l 0], none, 0⟩,
  ⟨2, .N (.mkfn (.func (φ 53)) 0), [.n 5], none, 0⟩,
  ⟨3, .N (.build [.int .i64 0, .nilf] [(0, 1), (1, 1)]), [.l 1, .l 0], none, 0⟩,
  ⟨4, .N (.loadN 2), [.n 2], none, 0⟩,
  ⟨5, .call (φ 54), [.l 1, .l 0], none, 0⟩,
  ⟨6, .N (.ext 0), [.l 0], none, 0⟩,
  ⟨7, .N (.ext 1), [.l 1], none, 0⟩,
  ⟨8, .X (.store 2), [.n 3, .l 1], none, 0⟩,
  ⟨9, .N .mv, [.l 1], none, 0⟩] := Eq.trans rfl rfl
def badI (n : Int) (x : Int) : Bool := decide (x < 0) || decide (n ≤ x)
def posI (xs : List Int) (x : Int) : Int := if x ∈ xs then (xs.idxOf x : Int) else -1
def inducedE (n : Int) (es : List Ed) (xs : List Int) : Int × List Ed × Int :=
  if rightE n es = false then (0, [], 1) else if xs.any (badI n) then (0, [], 4) else if ¬ xs.Nodup then (0, [], 1) else normalE xs.length (mapE (posI xs) es)
/-- Where each vertex was named. -/
def Pl (N : Nat) (ys : List Int) (c : List AV) : Prop := c.length = N ∧ ∃ p : Nat → Nat, (∀ v, v < N → c[v]? = some (.int .i64 (p v : Int))) ∧ (∀ v, v < N → (p v = 0 ↔ (v : Int) ∉ ys)) ∧ (∀ v, v < N → p v ≤ ys.length) ∧ (ys.Nodup → ∀ v, v < N → (v : Int) ∈ ys → p v = ys.idxOf (v : Int) + 1)
theorem pl_start (N : Nat) : Pl N [] (repA [.int .i64 0] N) := by
  refine ⟨by rw [repA_len]; simp, fun _ => 0, fun v hv => ?_, fun v hv => by simp, fun v hv => by simp, fun _ v hv h => by simp at h⟩
  rw [repA_repl, List.getElem?_replicate, if_pos hv]; rfl
theorem pl_add {N : Nat} {ys : List Int} {c : List AV} (h : Pl N ys c) {x : Nat} (hx : x < N) : Pl N (ys ++ [(x : Int)]) (c.set x (.int .i64 ((ys.length + 1 : Nat) : Int))) := by
  obtain ⟨h1, p, h2, h3, h4, h5⟩ := h
  obtain ⟨q, hq⟩ : ∃ q : Nat → Nat, ∀ v, q v = if v = x then ys.length + 1 else p v := ⟨_, fun _ => rfl⟩
  refine ⟨by simp [h1], q, fun v hv => ?_, fun v hv => ?_, fun v hv => ?_, fun hnd v hv hm => ?_⟩
  · rw [List.getElem?_set, h1]
    by_cases e : x = v
    · subst e; rw [hq, if_pos rfl, if_pos rfl, if_pos hx]
    · rw [if_neg e, hq, if_neg (fun h => e h.symm)]; exact h2 v hv
  · by_cases e : v = x
    · subst e; rw [hq, if_pos rfl]; simp
    · rw [hq, if_neg e, h3 v hv]
      have : ¬ (v : Int) = (x : Int) := by omega
      simp [this]
  · have := h4 v hv
    simp only [List.length_append, List.length_cons, List.length_nil]
    rw [hq]
    split <;> omega
  · rw [List.nodup_append] at hnd
    obtain ⟨n1, _, n2⟩ := hnd
    rw [List.idxOf_append]
    by_cases e : v = x
    · subst e
      have hni : (v : Int) ∉ ys := fun h => n2 _ h _ (by simp) rfl
      rw [hq, if_pos rfl, if_neg hni]; simp
    · rw [hq, if_neg e]
      have hvy : (v : Int) ∈ ys := by
        rcases List.mem_append.1 hm with h | h
        · exact h
        · simp at h; omega
      rw [if_pos hvy]
      exact h5 n1 v hv hvy
theorem w_Ind1 (h : Has A (φ 53) (f53 φ)) (x : Nat) (k N : Nat) (c : List AV) (H : Heap) (K : AV → Heap → Prop) (h3 : H[3]? = some (.cells 0 false [.sl 2 0 0 N 1 N true])) (h2 : H[2]? = some (.cells 0 false c)) (hc : c.length = N) (hx : x < N) (hN : N ≤ 1000)
    (hg : c[x]? = some (.int .i64 (k : Int))) (hk : k ≤ 1000000) (hK : K (.int .i64 ((k : Int) - 1)) H) : PCall A (φ 53) [.int .i64 x, .ptr 3 0 0] H K := by
  refine pcall_has h rfl ?_
  have hw : IntKind.i64.wrap ((k : Int) - 1) = (k : Int) - 1 := wrap_in (by omega) (by omega)
  have hx' : (x : Int) < (N : Int) := by omega
  have hxc : x + 1 ≤ c.length := by omega
  simp only [b53, f53]
  simp [-List.getD_eq_getElem?_getD, -Int.ofNat_toNat, -getElem?_pos, er53_0, er53_1, h3, h2, hg, hw, hx', hx, hxc, resK, resVs, resV, pack]
  exact hK
theorem nodup_snoc {ys : List Int} {x : Int} : (ys ++ [x]).Nodup ↔ ys.Nodup ∧ x ∉ ys := by
  rw [List.nodup_append]
  constructor
  · rintro ⟨h1, _, h2⟩; exact ⟨h1, fun h => h2 _ h _ (by simp) rfl⟩
  · rintro ⟨h1, h2⟩
    refine ⟨h1, by simp, fun a ha b hb e => ?_⟩
    simp at hb; subst hb; subst e; exact h2 ha
set_option maxHeartbeats 2000000 in
theorem w_Induced (h : Has A (φ 40) (f40 φ)) (h1 : Has A (φ 53) (f53 φ)) (h2 : Has A (φ 54) (f54 φ)) (hN : NormalC A (φ 1)) (hRc : RightC A (φ 4)) (n : Int) (v : AV) (es : List Ed) (hv : IsE v es) (lv : AV) (xs : List Int) (hl : IsI lv xs) (hxl : xs.length ≤ 100000) :
    PVal A (φ 40) [gV n v, lv] (gR (inducedE n es xs)) := by
  have hone := hv.one
  have hcl := hv.closed
  have hlen := hl.len
  have cR := (hRc n v es hv).eq
  have hnil : rE ([] : List Ed) = AV.nils := rfl
  refine pval_has h rfl ?_
  simp only [l40_13, b40, f40]
  by_cases hR : rightE n es = true
  · have hn := right_len hR
    have hrb := right_ends hR
    obtain ⟨N, rfl⟩ : ∃ N : Nat, n = (N : Int) := ⟨n.toNat, by omega⟩
    simp [hR] at cR
    simp [-List.getD_eq_getElem?_getD, -Int.ofNat_toNat, -getElem?_pos, er40_0, er40_1, er40_2, er40_3, er40_4, er40_5, er40_6, er40_7, er40_8, er40_9, er40_10, er40_11, er40_12, er40_14, er40_15, er40_16, hone, hcl, hlen, cR]
    refine ⟨by omega, ?_⟩
    refine pc_loopI (fun m st => ∃ (i : Nat) (c : List AV) (a7 a8 p13 p14 : AV), i + m = xs.length ∧ Pl N (xs.take i) c ∧ (∀ x ∈ xs.take i, badI N x = false) ∧
      st = ([gV N v, lv, .ptr 0 0 0, .ptr 1 0 0, .int .i64 0, .ptr 3 0 0, .bool (!decide (xs.take i).Nodup), a7, a8, .bool false, lv, .int .i64 xs.length, .int .i64 i, p13, p14, .un],
        [.cells 0 false [.int .i64 N, v], .cells 0 false [.int .i64 0, .nils], .cells 0 false c, .cells 0 false [.sl 2 0 0 N 1 N true]])) xs.length ⟨0, _, _, _, _, _, by simp, pl_start N, by simp, rfl⟩ ?_
    rintro m st ⟨i, c, a7, a8, p13, p14, hi, hP, hg, rfl⟩
    by_cases hlt : i < xs.length
    · have hlt' : (i : Int) < xs.length := by omega
      obtain ⟨i1, z1⟩ := hl.at hlt
      have hw1 := wrap1 hlt (by omega)
      have hts : xs.take (i + 1) = xs.take i ++ [xs[i]] := List.take_succ_eq_append_getElem hlt
      have hmem := List.getElem_mem hlt
      by_cases hb : badI N xs[i] = true
      · have hf : inducedE N es xs = (0, [], 4) := by
          unfold inducedE
          rw [if_neg (by simp [hR]), if_pos (List.any_eq_true.2 ⟨_, hmem, hb⟩)]
        simp only [badI, Bool.or_eq_true, decide_eq_true_eq] at hb
        by_cases q1 : xs[i] < 0
        · simp [-List.getD_eq_getElem?_getD, -Int.ofNat_toNat, -getElem?_pos, er40_0, er40_1, er40_2, er40_3, er40_4, er40_5, er40_6, er40_7, er40_8, er40_9, er40_10, er40_11, er40_12, er40_14, er40_15, er40_16, hlt', i1, z1, q1, hf, hnil, resK, resVs, resV, pack, viewG0]
        · have q2 : (N : Int) ≤ xs[i] := by omega
          simp [-List.getD_eq_getElem?_getD, -Int.ofNat_toNat, -getElem?_pos, er40_0, er40_1, er40_2, er40_3, er40_4, er40_5, er40_6, er40_7, er40_8, er40_9, er40_10, er40_11, er40_12, er40_14, er40_15, er40_16, hlt', i1, z1, q1, q2, hf, hnil, resK, resVs, resV, pack, viewG0]
      · simp only [Bool.not_eq_true] at hb
        have hb0 := hb
        simp only [badI, Bool.or_eq_false_iff, decide_eq_false_iff_not] at hb
        obtain ⟨q1, q2⟩ := hb
        obtain ⟨x, hx⟩ : ∃ x : Nat, xs[i] = (x : Int) := ⟨xs[i].toNat, by omega⟩
        rw [hx] at z1 hts
        have hxN : x < N := by omega
        have hxN' : (x : Int) < N := by omega
        have hx0 : ¬ (x : Int) < 0 := by omega
        have hxN2 : ¬ N ≤ x := by omega
        have hP' := pl_add hP hxN
        have hg' : ∀ y ∈ xs.take (i + 1), badI N y = false := by
          intro y hy
          rw [hts] at hy
          rcases List.mem_append.1 hy with h | h
          · exact hg y h
          · simp at h; subst h; rw [← hx]; exact hb0
        obtain ⟨hcl', p, p1, p2, p3, p4⟩ := hP
        have hpx := p1 x hxN
        have hxc : x + 1 ≤ c.length := by omega
        have hti : (xs.take i).length = i := by simp; omega
        rw [hti] at hP'
        have s1 := setAt_one (c := c) (o := x) (.int .i64 ((i : Int) + 1)) (by omega)
        rw [← hts] at hP'
        by_cases hnd : (xs.take i).Nodup
        · have hnn : (!decide (xs.take (i + 1)).Nodup) = decide (0 < p x) := by
            rw [hts, Bool.eq_iff_iff]
            simp only [Bool.not_eq_true', decide_eq_false_iff_not, decide_eq_true_eq, nodup_snoc]
            have := p2 x hxN
            constructor
            · intro h; rcases Nat.eq_zero_or_pos (p x) with h0 | h0
              · exact absurd ⟨hnd, this.1 h0⟩ h
              · exact h0
            · rintro h ⟨_, h3⟩
              have := this.2 h3; omega
          simp [-List.getD_eq_getElem?_getD, -Int.ofNat_toNat, -getElem?_pos, er40_0, er40_1, er40_2, er40_3, er40_4, er40_5, er40_6, er40_7, er40_8, er40_9, er40_10, er40_11, er40_12, er40_14, er40_15, er40_16, hlt', i1, z1, hx0, hxN', hxN2, hxN, hnd, hpx, hxc, hw1, s1]
          refine next_mk (m - 1) (by omega) ⟨i + 1, _, .int .i64 i, .int .i64 x, .bool true, .bool false, by omega, hP', hg', by rw [hnn]; rfl⟩
        · have hnn : (!decide (xs.take (i + 1)).Nodup) = true := by
            rw [hts]
            simp only [Bool.not_eq_true', decide_eq_false_iff_not, nodup_snoc]
            exact fun h => hnd h.1
          simp [-List.getD_eq_getElem?_getD, -Int.ofNat_toNat, -getElem?_pos, er40_0, er40_1, er40_2, er40_3, er40_4, er40_5, er40_6, er40_7, er40_8, er40_9, er40_10, er40_11, er40_12, er40_14, er40_15, er40_16, hlt', i1, z1, hx0, hxN', hxN2, hxN, hnd, hpx, hxc, hw1, s1]
          refine next_mk (m - 1) (by omega) ⟨i + 1, _, .int .i64 i, .int .i64 x, .bool true, .bool false, by omega, hP', hg', by rw [hnn]; rfl⟩
    · have hlt' : ¬ (i : Int) < xs.length := by omega
      have htk : xs.take i = xs := List.take_of_length_le (by omega)
      rw [htk] at hP hg
      have hany : xs.any (badI N) = false := by
        rw [List.any_eq_false]
        intro x hx; rw [hg x hx]; simp
      obtain ⟨hcl', p, p1, p2, p3, p4⟩ := hP
      by_cases hnd : xs.Nodup
      · have hf : inducedE N es xs = normalE xs.length (mapE (posI xs) es) := by
          unfold inducedE
          rw [if_neg (by simp [hR]), if_neg (by simp [hany]), if_neg (by simp [hnd])]
        have hpos : ∀ x : Nat, x < N → (p x : Int) - 1 = posI xs x := by
          intro x hx
          unfold posI
          by_cases hm : (x : Int) ∈ xs
          · rw [if_pos hm, p4 hnd x hx hm]; omega
          · rw [if_neg hm, (p2 x hx).2 hm]; rfl
        simp [-List.getD_eq_getElem?_getD, -Int.ofNat_toNat, -getElem?_pos, er40_0, er40_1, er40_2, er40_3, er40_4, er40_5, er40_6, er40_7, er40_8, er40_9, er40_10, er40_11, er40_12, er40_14, er40_15, er40_16, hlt', htk, hnd, hlen, hone]
        refine w_renamed h2 hN (posI xs) (φ 53) (.ptr 3 0 0) xs.length N v es hv hn.2.2 _ rfl (fun e he x hx H' K' hsame hK => ?_) (fun H' hsame hle => ?_)
        · have he' := hrb e he
          obtain ⟨y, rfl⟩ : ∃ y : Nat, x = (y : Int) := ⟨x.toNat, by omega⟩
          have hyN : y < N := by omega
          have := p3 y hyN
          refine w_Ind1 h1 y (p y) N c H' K' ?_ ?_ hcl' hyN (by omega) (p1 y hyN) (by omega) ?_
          · rw [hsame 3 (by simp)]; rfl
          · rw [hsame 2 (by simp)]; rfl
          · rw [hpos y hyN]; exact hK
        · have b1 : H'[1]? = some (.cells 0 false [.int .i64 0, .nils]) := by rw [hsame 1 (by simp)]; rfl
          have hset : ∀ z, (H'.set 1 z)[1]? = some z := fun z => List.getElem?_set_self (lt_of_get b1)
          simp only [hid_k, nR]
          rw [hf]
          generalize normalE xs.length (mapE (posI xs) es) = y at *
          have iy := isE_r y.2.1
          simp [-List.getD_eq_getElem?_getD, -Int.ofNat_toNat, -getElem?_pos, er40_0, er40_1, er40_2, er40_3, er40_4, er40_5, er40_6, er40_7, er40_8, er40_9, er40_10, er40_11, er40_12, er40_14, er40_15, er40_16, b1, hset, iy.one, iy.cells, iy.closed, resK, resVs, resV, pack]
      · have hf : inducedE N es xs = (0, [], 1) := by
          unfold inducedE
          rw [if_neg (by simp [hR]), if_neg (by simp [hany]), if_pos hnd]
        simp [-List.getD_eq_getElem?_getD, -Int.ofNat_toNat, -getElem?_pos, er40_0, er40_1, er40_2, er40_3, er40_4, er40_5, er40_6, er40_7, er40_8, er40_9, er40_10, er40_11, er40_12, er40_14, er40_15, er40_16, hlt', htk, hnd, hf, hnil, resK, resVs, resV, pack, viewG0]
  · simp only [Bool.not_eq_true] at hR
    have hf : inducedE n es xs = (0, [], 1) := by unfold inducedE; rw [if_pos hR]
    simp [hR] at cR
    simp [-List.getD_eq_getElem?_getD, -Int.ofNat_toNat, -getElem?_pos, er40_0, er40_1, er40_2, er40_3, er40_4, er40_5, er40_6, er40_7, er40_8, er40_9, er40_10, er40_11, er40_12, er40_14, er40_15, er40_16, hone, hcl, cR, hf, hnil, resK, resVs, resV, pack, viewG0]
end Go.Ai.G
/- The reference's Induced. -/
namespace Go.Ai.G
open Go.Ai
set_option maxRecDepth 100000
set_option linter.unusedSimpArgs false
set_option linter.unusedVariables false
variable {A : AProg} {φ : Nat → Nat}
attribute [local simp ↓] getD_z getD_s hid_k hid_o hid_q hid_v PO_nil PO_none PO_grd PD_nil PD_none PD_grd PDO_N PDO_X PDO_call PDO_calli PDO_callv PStep_N PStep_X PStep_call PStep_calli PC_skip PC_lab
  PC_ret PC_exit PC_reg PC_draw PC_seq PC_block PC_loop PC_scope PC_cond thenC_norm thenC_ret thenC_exit blockC_norm blockC_ret blockC_exit loopC_norm loopC_ret loopC_exit endR_ret
  endR_norm
attribute [local simp] gz PDX_free PDX_eq PStep_callv resK_none resK_t resK_tt KNO_val KNO_new KNO_ite KNO_map KXO_some KXO_ite KVA_t KVA_f KG_skip KG_tt KG_ff KG_tf KG_ft KB_true KB_false KNOD_val
  KNOD_new KNOD_ite n_mv n_pick n_bin n_eqB n_eqN n_eqS n_un n_conv n_fadd n_faddV n_fld1 n_fldN n_idx n_idxA n_idxV n_idxAV n_ext n_lenS n_lenS0 n_lenV n_lenT n_lenA n_min n_max
  n_build n_mkfn n_slc n_slc0 n_slcV n_slcA n_load1 n_loadN n_load1V n_loadNV n_alloc n_box n_bsl n_mksl n_nilcP n_nilcV n_nilcI n_nilcF x_store x_clear0 x_clear b_add b_sub b_mul
  b_eql b_neq b_lss b_leq b_gtr b_geq b_and16 unV ntouch gather hide unhide evalOpd applyOuts int_bne int_beq ite_bool ite_int one_bool cells_bool one_int cells_int one_str cells_str
  one_nilp cells_nilp one_ptr cells_ptr one_nils cells_nils one_sl cells_sl one_nilf cells_nilf one_fn cells_fn one_nili cells_nili one_mp cells_mp one_nilm cells_nilm one_iface
  cells_iface one_vs cells_vs one_vp cells_vp cells_agg Nat.testBit setAt_1 setAt_2 closeds_nil closeds_cons closed_bool closed_int closed_str closed_nilp closed_nils closed_nilm
  closed_nilf closed_nili closed_agg closed_tup closed_vs closed_vp closed_iface closed_fn closeds_cI closeds_cE viewA_closed viewR_closed AV.scal AV.scal0 fillA repA part_bool
  part_int part_str part_nilp part_ptr part_nils part_sl part_nilm part_mp part_nilf part_fn part_nili part_iface part_agg part_vs part_vp viewA_sl1 vaSl_cells wrap_0 wrap_1 wrap_2
  wrap_m1 set_last get_last
theorem er55_0 (φ : Nat → Nat) : r55_0 φ = [
  ⟨0, .N .mv, [.c (.bool false)], none, 0⟩] := Eq.trans rfl rfl
theorem er55_1 (φ : Nat → Nat) : r55_1 φ = [
  ⟨0, .N .mv, [.c (.int .i64 0)], none, 0⟩] := Eq.trans rfl rfl
theorem er55_2 (φ : Nat → Nat) : r55_2 φ = [
  ⟨0, .N .mv, [.n 2], none, 0⟩,
  ⟨1, .N .mv, [.n 0], none, 0⟩,
  ⟨2, .N .lenS, [.l 0], none, 0⟩,
  ⟨3, .N (.bin .lss), [.l 2, .l 0], none, 0⟩] := Eq.trans rfl rfl
theorem er55_3 (φ : Nat → Nat) : r55_3 φ = [
  ⟨0, .N .mv, [.c (.int .i64 0)], none, 0⟩] := Eq.trans rfl rfl
theorem er55_4 (φ : Nat → Nat) : r55_4 φ = [
  ⟨0, .N .mv, [.n 3], none, 0⟩,
  ⟨1, .N .mv, [.n 2], none, 0⟩,
  ⟨2, .N (.bin .lss), [.l 1, .l 0], none, 0⟩] := Eq.trans rfl rfl
theorem er55_5 (φ : Nat → Nat) : r55_5 φ = [
  ⟨0, .N .mv, [.n 0], none, 0⟩,
  ⟨1, .N .mv, [.n 2], none, 0⟩,
  ⟨2, .N (.idx 1), [.l 1, .l 0], none, 3⟩,
  ⟨3, .N .load1, [.l 0], none, 7⟩,
  ⟨4, .N .mv, [.n 0], none, 0⟩,
  ⟨5, .N .mv, [.n 3], none, 0⟩,
  ⟨6, .N (.idx 1), [.l 1, .l 0], none, 48⟩,
  ⟨7, .N .load1, [.l 0], none, 112⟩,
  ⟨8, .N (.bin .eql), [.l 4, .l 0], none, 255⟩] := Eq.trans rfl rfl
theorem er55_6 (φ : Nat → Nat) : r55_6 φ = [
  ⟨0, .N .mv, [.c (.bool false)], none, 0⟩] := Eq.trans rfl rfl
theorem er55_7 (φ : Nat → Nat) : r55_7 φ = [
  ⟨0, .N .mv, [.n 3], none, 0⟩,
  ⟨1, .N (.bin .add), [.l 0, .c (.int .i64 1)], none, 0⟩,
  ⟨2, .N .mv, [.l 0], none, 0⟩] := Eq.trans rfl rfl
theorem er55_9 (φ : Nat → Nat) : r55_9 φ = [
  ⟨0, .N .mv, [.n 2], none, 0⟩,
  ⟨1, .N (.bin .add), [.l 0, .c (.int .i64 1)], none, 0⟩,
  ⟨2, .N .mv, [.l 0], none, 0⟩] := Eq.trans rfl rfl
theorem er55_11 (φ : Nat → Nat) : r55_11 φ = [
  ⟨0, .N .mv, [.c (.bool true)], none, 0⟩] := Eq.trans rfl rfl
theorem er41_0 (φ : Nat → Nat) : r41_0 φ = [
  ⟨0, .N .box, [.n 0], none, 0⟩,
  ⟨1, .N (.alloc [.int .i64 0, .nils]), [], none, 0⟩,
  ⟨2, .N .mv, [.c (.int .i64 0)], none, 0⟩] := Eq.trans rfl rfl
theorem er41_1 (φ : Nat → Nat) : r41_1 φ = [
  ⟨0, .N (.loadN 2), [.n 2], none, 0⟩,
  ⟨1, .calli true (φ 6), [.l 0], none, 0⟩,
  ⟨2, .N (.un .not), [.l 0], none, 0⟩] := Eq.trans rfl rfl
theorem er41_2 (φ : Nat → Nat) : r41_2 φ = [
  ⟨0, .N (.build [.int .i64 0, .nils] []), [], none, 0⟩,
  ⟨1, .X (.store 2), [.n 3, .l 0], none, 0⟩,
  ⟨2, .N .mv, [.c (.int .i64 1)], none, 0⟩] := Eq.trans rfl rfl
theorem er41_3 (φ : Nat → Nat) : r41_3 φ = [
  ⟨0, .N .mv, [.c (.int .i64 0)], none, 0⟩] := Eq.trans rfl rfl
theorem er41_4 (φ : Nat → Nat) : r41_4 φ = [
  ⟨0, .N .mv, [.n 5], none, 0⟩,
  ⟨1, .N .mv, [.n 1], none, 0⟩,
  ⟨2, .N .lenS, [.l 0], none, 0⟩,
  ⟨3, .N (.bin .lss), [.l 2, .l 0], none, 0⟩] := Eq.trans rfl rfl
theorem er41_5 (φ : Nat → Nat) : r41_5 φ = [
  ⟨0, .N .mv, [.n 1], none, 0⟩,
  ⟨1, .N .mv, [.n 5], none, 0⟩,
  ⟨2, .N (.idx 1), [.l 1, .l 0], none, 3⟩,
  ⟨3, .N .load1, [.l 0], none, 7⟩,
  ⟨4, .N (.bin .lss), [.l 0, .c (.int .i64 0)], none, 15⟩,
  ⟨5, .N .mv, [.l 0], none, 31⟩,
  ⟨6, .N .mv, [.n 1], some (.l 0, false), 63⟩,
  ⟨7, .N .mv, [.n 5], some (.l 1, false), 63⟩,
  ⟨8, .N (.idx 1), [.l 1, .l 0], some (.l 2, false), 255⟩,
  ⟨9, .N .load1, [.l 0], some (.l 3, false), 511⟩,
  ⟨10, .N (.fadd 0), [.n 2], some (.l 4, false), 63⟩,
  ⟨11, .N .load1, [.l 0], some (.l 5, false), 1087⟩,
  ⟨12, .N (.bin .geq), [.l 2, .l 0], some (.l 6, false), 4095⟩,
  ⟨13, .N .pick, [.l 7, .c (.bool true), .l 0], none, 8191⟩] := Eq.trans rfl rfl
theorem er41_6 (φ : Nat → Nat) : r41_6 φ = [
  ⟨0, .N (.build [.int .i64 0, .nils] []), [], none, 0⟩,
  ⟨1, .X (.store 2), [.n 3, .l 0], none, 0⟩,
  ⟨2, .N .mv, [.c (.int .i64 4)], none, 0⟩] := Eq.trans rfl rfl
theorem er41_7 (φ : Nat → Nat) : r41_7 φ = [
  ⟨0, .N .mv, [.n 5], none, 0⟩,
  ⟨1, .N (.bin .add), [.l 0, .c (.int .i64 1)], none, 0⟩,
  ⟨2, .N .mv, [.l 0], none, 0⟩] := Eq.trans rfl rfl
theorem er41_9 (φ : Nat → Nat) : r41_9 φ = [
  ⟨0, .N .mv, [.n 1], none, 0⟩,
  ⟨1, .calli true (φ 55), [.l 0], none, 0⟩,
  ⟨2, .N (.un .not), [.l 0], none, 0⟩] := Eq.trans rfl rfl
theorem er41_10 (φ : Nat → Nat) : r41_10 φ = [
  ⟨0, .N (.build [.int .i64 0, .nils] []), [], none, 0⟩,
  ⟨1, .X (.store 2), [.n 3, .l 0], none, 0⟩,
  ⟨2, .N .mv, [.c (.int .i64 1)], none, 0⟩] := Eq.trans rfl rfl
theorem er41_11 (φ : Nat → Nat) : r41_11 φ = [
  ⟨0, .N .mv, [.n 1], none, 0⟩,
  ⟨1, .N .lenS, [.l 0], none, 0⟩,
  ⟨2, .N (.build [.int .i64 0, .nils] [(0, 1)]), [.l 0], none, 0⟩,
  ⟨3, .N (.alloc [.int .i64 0, .nils]), [], none, 0⟩,
  ⟨4, .X (.store 2), [.l 0, .l 1], none, 0⟩] := Eq.trans rfl rfl
theorem er41_12 (φ : Nat → Nat) : r41_12 φ = [
  ⟨0, .N .mv, [.c (.int .i64 0)], none, 0⟩] := Eq.trans rfl rfl
theorem er41_13 (φ : Nat → Nat) : r41_13 φ = [
  ⟨0, .N .mv, [.n 7], none, 0⟩,
  ⟨1, .N .mv, [.n 1], none, 0⟩,
  ⟨2, .N .lenS, [.l 0], none, 0⟩,
  ⟨3, .N (.bin .lss), [.l 2, .l 0], none, 0⟩] := Eq.trans rfl rfl
theorem er41_14 (φ : Nat → Nat) : r41_14 φ = [
  ⟨0, .N .mv, [.n 7], none, 0⟩,
  ⟨1, .N (.bin .add), [.l 0, .c (.int .i64 1)], none, 0⟩,
  ⟨2, .N .mv, [.l 0], none, 0⟩] := Eq.trans rfl rfl
theorem er41_15 (φ : Nat → Nat) : r41_15 φ = [
  ⟨0, .N .mv, [.n 8], none, 0⟩,
  ⟨1, .N .mv, [.n 1], none, 0⟩,
  ⟨2, .N .lenS, [.l 0], none, 0⟩,
  ⟨3, .N (.bin .lss), [.l 2, .l 0], none, 0⟩] := Eq.trans rfl rfl
theorem er41_16 (φ : Nat → Nat) : r41_16 φ = [
  ⟨0, .N (.loadN 2), [.n 2], none, 0⟩,
  ⟨1, .N .mv, [.n 1], none, 0⟩,
  ⟨2, .N .mv, [.n 7], none, 0⟩,
  ⟨3, .N (.idx 1), [.l 1, .l 0], none, 6⟩,
  ⟨4, .N .load1, [.l 0], none, 14⟩,
  ⟨5, .N .mv, [.n 1], none, 0⟩,
  ⟨6, .N .mv, [.n 8], none, 0⟩,
  ⟨7, .N (.idx 1), [.l 1, .l 0], none, 96⟩,
  ⟨8, .N .load1, [.l 0], none, 224⟩,
  ⟨9, .calli true (φ 8), [.l 8, .l 4, .l 0], none, 511⟩] := Eq.trans rfl rfl
theorem er41_17 (φ : Nat → Nat) : r41_17 φ = [
  ⟨0, .N (.fadd 1), [.n 6], none, 0⟩,
  ⟨1, .N .load1, [.l 0], none, 0⟩,
  ⟨2, .N .mv, [.n 7], none, 0⟩,
  ⟨3, .N .mv, [.n 8], none, 0⟩,
  ⟨4, .N (.build [.int .i64 0, .int .i64 0] [(0, 1), (1, 1)]), [.l 1, .l 0], none, 0⟩,
  ⟨5, .N (.bsl [.int .i64 0, .int .i64 0] 1 2 [(0, 2)]), [.l 0], none, 0⟩,
  ⟨6, .X (.app 2 16), [.l 4, .l 0], none, 0⟩,
  ⟨7, .N (.fadd 1), [.n 6], none, 0⟩,
  ⟨8, .X (.store 1), [.l 0, .l 1], none, 0⟩] := Eq.trans rfl rfl
theorem er41_18 (φ : Nat → Nat) : r41_18 φ = [
  ⟨0, .N .mv, [.n 8], none, 0⟩,
  ⟨1, .N (.bin .add), [.l 0, .c (.int .i64 1)], none, 0⟩,
  ⟨2, .N .mv, [.l 0], none, 0⟩] := Eq.trans rfl rfl
theorem er41_20 (φ : Nat → Nat) : r41_20 φ = [
  ⟨0, .N .mv, [.n 7], none, 0⟩,
  ⟨1, .N (.bin .add), [.l 0, .c (.int .i64 1)], none, 0⟩,
  ⟨2, .N .mv, [.l 0], none, 0⟩] := Eq.trans rfl rfl
theorem er41_22 (φ : Nat → Nat) : r41_22 φ = [
  ⟨0, .N (.loadN 2), [.n 6], none, 0⟩,
  ⟨1, .X (.store 2), [.n 3, .l 0], none, 0⟩,
  ⟨2, .N .mv, [.c (.int .i64 0)], none, 0⟩] := Eq.trans rfl rfl
theorem w_Unlike (h : Has A (φ 55) (f55 φ)) (lv : AV) (xs : List Int) (hl : IsI lv xs) (hn : xs.length < 1000000) : PVal A (φ 55) [lv] (.bool (decide xs.Nodup)) := by
  have hlen := hl.len
  refine pval_has h rfl ?_
  simp only [l55_8, l55_10, b55, f55]
  simp [-List.getD_eq_getElem?_getD, -Int.ofNat_toNat, -getElem?_pos, er55_0, er55_1, er55_2, er55_3, er55_4, er55_5, er55_6, er55_7, er55_9, er55_11]
  refine pc_loopI (fun m st => ∃ (i : Nat) (k p q r : AV), i + m = xs.length ∧ (xs.take i).Nodup ∧ st = ([lv, .bool false, .int .i64 i, k, p, q, r], [])) xs.length ⟨0, _, _, _, _, by simp, by simp, rfl⟩ ?_
  rintro m st ⟨i, k, p, q, r0, hi, hnd, rfl⟩
  by_cases hlt : i < xs.length
  · have hlt' : (i : Int) < xs.length := by omega
    have hw1 := wrap1 hlt (by omega)
    obtain ⟨i1, z1⟩ := hl.at hlt
    have hts : xs.take (i + 1) = xs.take i ++ [xs[i]] := List.take_succ_eq_append_getElem hlt
    simp [-List.getD_eq_getElem?_getD, -Int.ofNat_toNat, -getElem?_pos, er55_0, er55_1, er55_2, er55_3, er55_4, er55_5, er55_6, er55_7, er55_9, er55_11, hlen, hlt']
    refine pc_loopI (fun m2 st => ∃ (k : Nat) (q r : AV), k + m2 = i ∧ (∀ j (h : j < xs.length), j < k → ¬ xs[i] = xs[j]) ∧ st = ([lv, .bool false, .int .i64 i, .int .i64 k, .bool true, q, r], [])) i ⟨0, _, _, by simp, by simp, rfl⟩ ?_
    rintro m2 st2 ⟨k, q, r, hk, hne, rfl⟩
    by_cases hki : k < i
    · have hki' : (k : Int) < (i : Int) := by omega
      have hkl : k < xs.length := by omega
      obtain ⟨i2, z2⟩ := hl.at hkl
      have hw2 := wrap1 hkl (by omega)
      by_cases he : xs[i] = xs[k]
      · have hno : ¬ xs.Nodup := fun h => by
          have := List.pairwise_iff_getElem.1 h k i hkl hlt hki
          exact this he.symm
        simp [-List.getD_eq_getElem?_getD, -Int.ofNat_toNat, -getElem?_pos, er55_0, er55_1, er55_2, er55_3, er55_4, er55_5, er55_6, er55_7, er55_9, er55_11, hki, hki', i1, i2, z1, z2, he, hno, resK, resVs, resV, pack]
      · simp [-List.getD_eq_getElem?_getD, -Int.ofNat_toNat, -getElem?_pos, er55_0, er55_1, er55_2, er55_3, er55_4, er55_5, er55_6, er55_7, er55_9, er55_11, hki, hki', i1, i2, z1, z2, he, hw2]
        refine next_mk (m2 - 1) (by omega) ⟨k + 1, _, _, by omega, fun j h hj => ?_, rfl⟩
        rcases Nat.lt_or_ge j k with h' | h'
        · exact hne j h h'
        · have : j = k := by omega
          subst this; exact he
    · have hki' : ¬ (k : Int) < (i : Int) := by omega
      have hni : xs[i] ∉ xs.take i := by
        intro hm
        obtain ⟨j, hj, e⟩ := List.getElem_of_mem hm
        rw [List.getElem_take] at e
        have hj' : j < i := by simp at hj; omega
        exact hne j (by omega) (by omega) e.symm
      simp [-List.getD_eq_getElem?_getD, -Int.ofNat_toNat, -getElem?_pos, er55_0, er55_1, er55_2, er55_3, er55_4, er55_5, er55_6, er55_7, er55_9, er55_11, hki, hki', hw1]
      exact next_mk (m - 1) (by omega) ⟨i + 1, _, _, _, _, by omega, by rw [hts]; exact nodup_snoc.2 ⟨hnd, hni⟩, rfl⟩
  · have hlt' : ¬ (i : Int) < xs.length := by omega
    rw [List.take_of_length_le (by omega)] at hnd
    simp [-List.getD_eq_getElem?_getD, -Int.ofNat_toNat, -getElem?_pos, er55_0, er55_1, er55_2, er55_3, er55_4, er55_5, er55_6, er55_7, er55_9, er55_11, hlen, hlt', hnd, resK, resVs, resV, pack]
/-- The edges of the first a vertices with those behind them, and of the vertex a with those before b. -/
def rowE (f : Nat → Nat → Bool) (a b : Nat) : List Ed := ((List.range b).filter fun j => decide (a < j) && f a j).map fun (j : Nat) => ((a : Int), (j : Int))
def accE (f : Nat → Nat → Bool) (L a b : Nat) : List Ed := ((List.range a).flatMap fun i => rowE f i L) ++ rowE f a b
theorem rowE_snoc (f : Nat → Nat → Bool) (a b : Nat) : rowE f a (b + 1) = rowE f a b ++ (if a < b ∧ f a b = true then [((a : Int), (b : Int))] else []) := by
  simp only [rowE, List.range_succ, List.filter_append, List.map_append]
  congr 1
  by_cases h1 : a < b <;> cases h2 : f a b <;> simp [h1, h2]
theorem rowE_low (f : Nat → Nat → Bool) (a : Nat) : rowE f a (a + 1) = [] := by
  simp only [rowE, List.map_eq_nil_iff, List.filter_eq_nil_iff, List.mem_range]
  intro j hj; simp; intro h; omega
theorem rowE_nil (f : Nat → Nat → Bool) {a b : Nat} (h : b ≤ a + 1) : rowE f a b = [] := by
  simp only [rowE, List.map_eq_nil_iff, List.filter_eq_nil_iff, List.mem_range]
  intro j hj; simp; intro h; omega
theorem rowE_len (f : Nat → Nat → Bool) (a b : Nat) : (rowE f a b).length ≤ b := by
  simp only [rowE, List.length_map]
  exact Nat.le_trans (List.length_filter_le _ _) (by simp)
theorem accE_step (f : Nat → Nat → Bool) (L a : Nat) : accE f L (a + 1) (a + 2) = accE f L a L := by
  simp only [accE, List.range_succ, List.flatMap_append, List.flatMap_cons, List.flatMap_nil, List.append_nil, rowE_low]
theorem accE_len (f : Nat → Nat → Bool) (L : Nat) : ∀ a b : Nat, b ≤ L → (accE f L a b).length ≤ (a + 1) * L
  | 0, b, hb => by simp [accE]; exact Nat.le_trans (rowE_len f 0 b) hb
  | a + 1, b, hb => by
    have := accE_len f L a L (Nat.le_refl _)
    have e : accE f L (a + 1) b = accE f L a L ++ rowE f (a + 1) b := by
      simp only [accE, List.range_succ, List.flatMap_append, List.flatMap_cons, List.flatMap_nil, List.append_nil, List.append_assoc]
    rw [e, List.length_append]
    have h2 := rowE_len f (a + 1) b
    have : (a + 1 + 1) * L = (a + 1) * L + L := by rw [Nat.add_mul]; omega
    omega
def refIndE (n : Int) (es : List Ed) (xs : List Int) : Int × List Ed × Int :=
  if rightE n es = false then (0, [], 1) else if xs.any (badI n) then (0, [], 4) else if ¬ xs.Nodup then (0, [], 1) else ((xs.length : Int), accE (fun a b => hasE n es (xs.getD a 0) (xs.getD b 0)) xs.length xs.length xs.length, 0)
set_option maxHeartbeats 2000000 in
theorem w_RInduced (h : Has A (φ 41) (f41 φ)) (hRc : RightC A (φ 6)) (hU : ∀ lv xs, IsI lv xs → xs.length < 1000000 → PVal A (φ 55) [lv] (.bool (decide xs.Nodup))) (hH : ∀ n a b v es, IsE v es → PVal A (φ 8) [gV n v, .int .i64 a, .int .i64 b] (.bool (hasE n es a b)))
    (n : Int) (v : AV) (es : List Ed) (hv : IsE v es) (lv : AV) (xs : List Int) (hl : IsI lv xs) (hxl : xs.length ≤ 1000) :
    PVal A (φ 41) [gV n v, lv] (gR (refIndE n es xs)) := by
  have hone := hv.one
  have hcl := hv.closed
  have hlen := hl.len
  have hlc := hl.closed
  have cR := (hRc n v es hv).eq
  have cU := (hU lv xs hl (by omega)).eq
  have hnil : rE ([] : List Ed) = AV.nils := rfl
  refine pval_has h rfl ?_
  simp only [l41_8, l41_19, l41_21, b41, f41]
  by_cases hR : rightE n es = true
  · simp [hR] at cR
    simp [-List.getD_eq_getElem?_getD, -Int.ofNat_toNat, -getElem?_pos, er41_0, er41_1, er41_2, er41_3, er41_4, er41_5, er41_6, er41_7, er41_9, er41_10, er41_11, er41_12, er41_13, er41_14, er41_15, er41_16, er41_17, er41_18, er41_20, er41_22, hone, hcl, cR]
    refine pc_loopI (fun m st => ∃ (i : Nat) (p10 p11 : AV), i + m = xs.length ∧ (∀ x ∈ xs.take i, badI n x = false) ∧
      st = ([gV n v, lv, .ptr 0 0 0, .ptr 1 0 0, .int .i64 0, .int .i64 i, .un, .un, .un, .bool false, p10, p11, .un, .un, .un, .un],
        [.cells 0 false [.int .i64 n, v], .cells 0 false [.int .i64 0, .nils]])) xs.length ⟨0, _, _, by simp, by simp, rfl⟩ ?_
    rintro m st ⟨i, p10, p11, hi, hg, rfl⟩
    by_cases hlt : i < xs.length
    · have hlt' : (i : Int) < xs.length := by omega
      obtain ⟨i1, z1⟩ := hl.at hlt
      have hw1 := wrap1 hlt (by omega)
      have hts : xs.take (i + 1) = xs.take i ++ [xs[i]] := List.take_succ_eq_append_getElem hlt
      have hmem := List.getElem_mem hlt
      by_cases hb : badI n xs[i] = true
      · have hf : refIndE n es xs = (0, [], 4) := by
          unfold refIndE
          rw [if_neg (by simp [hR]), if_pos (List.any_eq_true.2 ⟨_, hmem, hb⟩)]
        simp only [badI, Bool.or_eq_true, decide_eq_true_eq] at hb
        by_cases q1 : xs[i] < 0
        · simp [-List.getD_eq_getElem?_getD, -Int.ofNat_toNat, -getElem?_pos, er41_0, er41_1, er41_2, er41_3, er41_4, er41_5, er41_6, er41_7, er41_9, er41_10, er41_11, er41_12, er41_13, er41_14, er41_15, er41_16, er41_17, er41_18, er41_20, er41_22, hlen, hlt', i1, z1, q1, hf, hnil, resK, resVs, resV, pack, viewG0]
        · have q2 : n ≤ xs[i] := by omega
          simp [-List.getD_eq_getElem?_getD, -Int.ofNat_toNat, -getElem?_pos, er41_0, er41_1, er41_2, er41_3, er41_4, er41_5, er41_6, er41_7, er41_9, er41_10, er41_11, er41_12, er41_13, er41_14, er41_15, er41_16, er41_17, er41_18, er41_20, er41_22, hlen, hlt', i1, z1, q1, q2, hf, hnil, resK, resVs, resV, pack, viewG0]
      · simp only [Bool.not_eq_true] at hb
        have hb0 := hb
        simp only [badI, Bool.or_eq_false_iff, decide_eq_false_iff_not] at hb
        obtain ⟨q1, q2⟩ := hb
        simp [-List.getD_eq_getElem?_getD, -Int.ofNat_toNat, -getElem?_pos, er41_0, er41_1, er41_2, er41_3, er41_4, er41_5, er41_6, er41_7, er41_9, er41_10, er41_11, er41_12, er41_13, er41_14, er41_15, er41_16, er41_17, er41_18, er41_20, er41_22, hlen, hlt', i1, z1, q1, q2, hw1]
        refine next_mk (m - 1) (by omega) ⟨i + 1, _, _, by omega, fun y hy => ?_, rfl⟩
        rw [hts] at hy
        rcases List.mem_append.1 hy with h | h
        · exact hg y h
        · simp at h; subst h; exact hb0
    · have hlt' : ¬ (i : Int) < xs.length := by omega
      rw [List.take_of_length_le (by omega)] at hg
      have hany : xs.any (badI n) = false := by
        rw [List.any_eq_false]
        intro x hx; rw [hg x hx]; simp
      by_cases hnd : xs.Nodup
      · have hf : refIndE n es xs = ((xs.length : Int), accE (fun a b => hasE n es (xs.getD a 0) (xs.getD b 0)) xs.length xs.length xs.length, 0) := by
          unfold refIndE
          rw [if_neg (by simp [hR]), if_neg (by simp [hany]), if_neg (by simp [hnd])]
        rw [hf]
        simp [hnd] at cU
        simp [-List.getD_eq_getElem?_getD, -Int.ofNat_toNat, -getElem?_pos, er41_0, er41_1, er41_2, er41_3, er41_4, er41_5, er41_6, er41_7, er41_9, er41_10, er41_11, er41_12, er41_13, er41_14, er41_15, er41_16, er41_17, er41_18, er41_20, er41_22, hlen, hlt', hlc, cU]
        have hFd : ∀ (a b : Nat) (ha : a < xs.length) (hb : b < xs.length), hasE n es (xs.getD a 0) (xs.getD b 0) = hasE n es xs[a] xs[b] := fun a b ha hb => by
          rw [List.getD_eq_getElem?_getD, List.getD_eq_getElem?_getD, List.getElem?_eq_getElem ha, List.getElem?_eq_getElem hb]; rfl
        generalize hfe : (fun a b : Nat => hasE n es (xs.getD a 0) (xs.getD b 0)) = F at *
        have hF : ∀ (a b : Nat) (ha : a < xs.length) (hb : b < xs.length), hasE n es xs[a] xs[b] = F a b := fun a b ha hb => by rw [← hFd a b ha hb, ← hfe]
        refine pc_loopI (fun m st => ∃ (a : Nat) (o b p13 p14 p15 : AV) (H : Heap), a + m = xs.length ∧ OwnE true 3 H o (accE F xs.length a (a + 1)) ∧ H[0]? = some (.cells 0 false [.int .i64 n, v]) ∧ H[1]? = some (.cells 0 false [.int .i64 0, .nils]) ∧ H[2]? = some (.cells 0 false [.int .i64 xs.length, o]) ∧
          st = ([gV n v, lv, .ptr 0 0 0, .ptr 1 0 0, .int .i64 0, .int .i64 i, .ptr 2 0 0, .int .i64 a, b, .bool false, .bool false, p11, .bool false, p13, p14, p15], H)) xs.length
          ⟨0, _, _, _, _, _, _, by simp, by rw [show accE F xs.length 0 (0 + 1) = [] by simp [accE, rowE_nil]]; exact own_nil _ _ _, rfl, rfl, rfl, rfl⟩ ?_
        rintro m st ⟨a, o, b0, p13, p14, p15, H, ha, ho, e0, e1, e2, rfl⟩
        by_cases hal : a < xs.length
        · have hal' : (a : Int) < xs.length := by omega
          have haw := wrap1 hal (by omega)
          obtain ⟨ia, za⟩ := hl.at hal
          simp [-List.getD_eq_getElem?_getD, -Int.ofNat_toNat, -getElem?_pos, er41_0, er41_1, er41_2, er41_3, er41_4, er41_5, er41_6, er41_7, er41_9, er41_10, er41_11, er41_12, er41_13, er41_14, er41_15, er41_16, er41_17, er41_18, er41_20, er41_22, hlen, hal', hal, haw]
          refine pc_loopI (fun m2 st => ∃ (b : Nat) (o p14 p15 : AV) (H : Heap), b + m2 = xs.length ∧ a < b ∧ OwnE true 3 H o (accE F xs.length a b) ∧ H[0]? = some (.cells 0 false [.int .i64 n, v]) ∧ H[1]? = some (.cells 0 false [.int .i64 0, .nils]) ∧ H[2]? = some (.cells 0 false [.int .i64 xs.length, o]) ∧
            st = ([gV n v, lv, .ptr 0 0 0, .ptr 1 0 0, .int .i64 0, .int .i64 i, .ptr 2 0 0, .int .i64 a, .int .i64 b, .bool false, .bool false, p11, .bool false, .bool true, p14, p15], H)) (xs.length - (a + 1))
            ⟨a + 1, _, _, _, _, by omega, by omega, ho, e0, e1, e2, rfl⟩ ?_
          rintro m2 st2 ⟨b, o, p14, p15, H, hb, hab, ho, e0, e1, e2, rfl⟩
          by_cases hbl : b < xs.length
          · have hbl' : (b : Int) < xs.length := by omega
            have hbw := wrap1 hbl (by omega)
            obtain ⟨ib, zb⟩ := hl.at hbl
            have cH := (hH n xs[a] xs[b] v es hv).eq
            rw [hF a b hal hbl] at cH
            have hal2 := accE_len F xs.length a b (by omega)
            have hmul : (a + 1) * xs.length ≤ 1000 * 1000 := Nat.mul_le_mul (by omega) (by omega)
            have hsn : accE F xs.length a (b + 1) = accE F xs.length a b ++ (if a < b ∧ F a b = true then [((a : Int), (b : Int))] else []) := by
              simp only [accE, rowE_snoc, List.append_assoc]
            cases hfab : F a b with
            | true =>
              rw [hfab] at cH
              rw [if_pos ⟨hab, hfab⟩] at hsn
              obtain ⟨o1, H1, x1, x2, x3, _, _, _⟩ := OwnE.app1 ho (a : Int) (b : Int) (lt_of_get e2) (by omega)
              have e2' : H1[2]? = some (.cells 0 false [.int .i64 xs.length, o]) := by rw [x3 2 (by omega)]; exact e2
              have hone1 : o1.one = true := Own.one x2
              have hcell1 : o1.cells = [o1] := Own.cells x2
              have hs1 : setAt [.int .i64 (xs.length : Int), o] 1 [o1] = [.int .i64 (xs.length : Int), o1] := rfl
              simp [-List.getD_eq_getElem?_getD, -Int.ofNat_toNat, -getElem?_pos, er41_0, er41_1, er41_2, er41_3, er41_4, er41_5, er41_6, er41_7, er41_9, er41_10, er41_11, er41_12, er41_13, er41_14, er41_15, er41_16, er41_17, er41_18, er41_20, er41_22, hlen, hbl', hbl, hone, hcl, ia, za, ib, zb, cH, e0, e2, e2', x1, hone1, hcell1, hs1, hbw]
              refine next_mk (m2 - 1) (by omega) ⟨b + 1, o1, _, _, H1.set 2 (.cells 0 false [.int .i64 xs.length, o1]), by omega, by omega, ?_, ?_, ?_, List.getElem?_set_self (lt_of_get e2'), rfl⟩
              · rw [hsn]; exact Own.keep x2 fun b hb hbv => List.getElem?_set_ne (by have := (Own.blk x2 hbv).1; omega)
              · rw [List.getElem?_set_ne (by omega), x3 0 (by omega)]; exact e0
              · rw [List.getElem?_set_ne (by omega), x3 1 (by omega)]; exact e1
            | false =>
              rw [hfab] at cH
              rw [if_neg (by simp [hfab]), List.append_nil] at hsn
              simp [-List.getD_eq_getElem?_getD, -Int.ofNat_toNat, -getElem?_pos, er41_0, er41_1, er41_2, er41_3, er41_4, er41_5, er41_6, er41_7, er41_9, er41_10, er41_11, er41_12, er41_13, er41_14, er41_15, er41_16, er41_17, er41_18, er41_20, er41_22, hlen, hbl', hbl, hone, hcl, ia, za, ib, zb, cH, e0, hbw]
              exact next_mk (m2 - 1) (by omega) ⟨b + 1, o, _, _, H, by omega, by omega, by rw [hsn]; exact ho, e0, e1, e2, rfl⟩
          · have hbl' : ¬ (b : Int) < xs.length := by omega
            have hbe : b = xs.length := by omega
            subst hbe
            rw [← accE_step] at ho
            simp [-List.getD_eq_getElem?_getD, -Int.ofNat_toNat, -getElem?_pos, er41_0, er41_1, er41_2, er41_3, er41_4, er41_5, er41_6, er41_7, er41_9, er41_10, er41_11, er41_12, er41_13, er41_14, er41_15, er41_16, er41_17, er41_18, er41_20, er41_22, hlen, haw]
            exact next_mk (m - 1) (by omega) ⟨a + 1, _, _, _, _, _, H, by omega, ho, e0, e1, e2, rfl⟩
        · have hal' : ¬ (a : Int) < xs.length := by omega
          have hae : a = xs.length := by omega
          subst hae
          rw [show accE F xs.length xs.length (xs.length + 1) = accE F xs.length xs.length xs.length by simp [accE, rowE_nil]] at ho
          have hset : ∀ z, (H.set 1 z)[1]? = some z := fun z => List.getElem?_set_self (lt_of_get e1)
          have hz : RdV true (H.set 1 (.cells 0 false [.int .i64 xs.length, o])) o (accE F xs.length xs.length xs.length) := OwnE.rd (P := 3) (Own.keep ho fun b hb hbe => List.getElem?_set_ne (by have := (Own.blk ho hbe).1; omega)) (fun h => by cases h)
          have hgoal := hz.viewG xs.length 0
          simp [-List.getD_eq_getElem?_getD, -Int.ofNat_toNat, -getElem?_pos, er41_0, er41_1, er41_2, er41_3, er41_4, er41_5, er41_6, er41_7, er41_9, er41_10, er41_11, er41_12, er41_13, er41_14, er41_15, er41_16, er41_17, er41_18, er41_20, er41_22, hlen, e1, e2, hset, Own.one ho, Own.cells ho, resK, resVs, resV, pack, hgoal]
      · have hf : refIndE n es xs = (0, [], 1) := by
          unfold refIndE
          rw [if_neg (by simp [hR]), if_neg (by simp [hany]), if_pos hnd]
        simp [hnd] at cU
        simp [-List.getD_eq_getElem?_getD, -Int.ofNat_toNat, -getElem?_pos, er41_0, er41_1, er41_2, er41_3, er41_4, er41_5, er41_6, er41_7, er41_9, er41_10, er41_11, er41_12, er41_13, er41_14, er41_15, er41_16, er41_17, er41_18, er41_20, er41_22, hlen, hlt', hlc, cU, hf, hnil, resK, resVs, resV, pack, viewG0]
  · simp only [Bool.not_eq_true] at hR
    have hf : refIndE n es xs = (0, [], 1) := by unfold refIndE; rw [if_pos hR]
    simp [hR] at cR
    simp [-List.getD_eq_getElem?_getD, -Int.ofNat_toNat, -getElem?_pos, er41_0, er41_1, er41_2, er41_3, er41_4, er41_5, er41_6, er41_7, er41_9, er41_10, er41_11, er41_12, er41_13, er41_14, er41_15, er41_16, er41_17, er41_18, er41_20, er41_22, hone, hcl, cR, hf, hnil, resK, resVs, resV, pack, viewG0]
end Go.Ai.G
/- SubInduced. -/
namespace Go.Ai.G
open Go.Ai
set_option maxRecDepth 100000
set_option linter.unusedSimpArgs false
set_option linter.unusedVariables false
variable {A : AProg} {φ : Nat → Nat}
attribute [local simp ↓] getD_z getD_s hid_k hid_o hid_q hid_v PO_nil PO_none PO_grd PD_nil PD_none PD_grd PDO_N PDO_X PDO_call PDO_calli PDO_callv PStep_N PStep_X PStep_call PStep_calli PC_skip PC_lab
  PC_ret PC_exit PC_reg PC_draw PC_seq PC_block PC_loop PC_scope PC_cond thenC_norm thenC_ret thenC_exit blockC_norm blockC_ret blockC_exit loopC_norm loopC_ret loopC_exit endR_ret
  endR_norm
attribute [local simp] gz PDX_free PDX_eq PStep_callv resK_none resK_t resK_tt KNO_val KNO_new KNO_ite KNO_map KXO_some KXO_ite KVA_t KVA_f KG_skip KG_tt KG_ff KG_tf KG_ft KB_true KB_false KNOD_val
  KNOD_new KNOD_ite n_mv n_pick n_bin n_eqB n_eqN n_eqS n_un n_conv n_fadd n_faddV n_fld1 n_fldN n_idx n_idxA n_idxV n_idxAV n_ext n_lenS n_lenS0 n_lenV n_lenT n_lenA n_min n_max
  n_build n_mkfn n_slc n_slc0 n_slcV n_slcA n_load1 n_loadN n_load1V n_loadNV n_alloc n_box n_bsl n_mksl n_nilcP n_nilcV n_nilcI n_nilcF x_store x_clear0 x_clear b_add b_sub b_mul
  b_eql b_neq b_lss b_leq b_gtr b_geq b_and16 unV ntouch gather hide unhide evalOpd applyOuts int_bne int_beq ite_bool ite_int one_bool cells_bool one_int cells_int one_str cells_str
  one_nilp cells_nilp one_ptr cells_ptr one_nils cells_nils one_sl cells_sl one_nilf cells_nilf one_fn cells_fn one_nili cells_nili one_mp cells_mp one_nilm cells_nilm one_iface
  cells_iface one_vs cells_vs one_vp cells_vp cells_agg Nat.testBit setAt_1 setAt_2 closeds_nil closeds_cons closed_bool closed_int closed_str closed_nilp closed_nils closed_nilm
  closed_nilf closed_nili closed_agg closed_tup closed_vs closed_vp closed_iface closed_fn closeds_cI closeds_cE viewA_closed viewR_closed AV.scal AV.scal0 fillA repA part_bool
  part_int part_str part_nilp part_ptr part_nils part_sl part_nilm part_mp part_nilf part_fn part_nili part_iface part_agg part_vs part_vp viewA_sl1 vaSl_cells wrap_0 wrap_1 wrap_2
  wrap_m1 set_last get_last
theorem nodup_idx {xs : List Int} (h : xs.Nodup) {i : Nat} (hi : i < xs.length) : xs.idxOf xs[i] = i := by
  have hm : xs[i] ∈ xs := List.getElem_mem hi
  have hlt := List.idxOf_lt_length_of_mem hm
  have he : xs[xs.idxOf xs[i]] = xs[i] := List.getElem_idxOf hlt
  have hp := List.pairwise_iff_getElem.1 h
  rcases Nat.lt_trichotomy (xs.idxOf xs[i]) i with h1 | h1 | h1
  · exact absurd he (hp _ _ hlt hi h1)
  · exact h1
  · exact absurd he.symm (hp _ _ hi hlt h1)
theorem accE_mem (f : Nat → Nat → Bool) (L : Nat) (x : Ed) : x ∈ accE f L L L ↔ ∃ i j : Nat, i < j ∧ j < L ∧ f i j = true ∧ x = ((i : Int), (j : Int)) := by
  have e : rowE f L L = [] := rowE_nil f (by omega)
  unfold accE
  rw [e, List.append_nil]
  simp only [List.mem_flatMap, List.mem_range, rowE, List.mem_map, List.mem_filter, Bool.and_eq_true, decide_eq_true_eq]
  constructor
  · rintro ⟨i, hi, j, ⟨hj, h1, h2⟩, rfl⟩; exact ⟨i, j, h1, hj, h2, rfl⟩
  · rintro ⟨i, j, h1, h2, h3, rfl⟩; exact ⟨i, by omega, j, ⟨h2, h1, h3⟩, rfl⟩
theorem accE_strict (f : Nat → Nat → Bool) (L : Nat) : (accE f L L L).Pairwise ltE := by
  have e : rowE f L L = [] := rowE_nil f (by omega)
  simp only [accE, e, List.append_nil]
  rw [List.pairwise_flatMap]
  constructor
  · intro i _
    unfold rowE
    rw [List.pairwise_map]
    refine ((List.pairwise_lt_range (n := L)).filter _).imp ?_
    intro a b h
    exact .inr ⟨rfl, by simp only; omega⟩
  · refine (List.pairwise_lt_range (n := L)).imp ?_
    intro a b h x hx y hy
    simp only [rowE, List.mem_map, List.mem_filter, List.mem_range] at hx hy
    obtain ⟨j, _, rfl⟩ := hx
    obtain ⟨k, _, rfl⟩ := hy
    exact .inl (by simp only; omega)
theorem hasE_iff {n : Int} {es : List Ed} (hR : rightE n es = true) (a b : Int) : hasE n es a b = true ↔ (a, b) ∈ es ∨ (b, a) ∈ es := by
  unfold hasE; rw [hR]; simp
theorem posI_mem {xs : List Int} {x : Int} (h : 0 ≤ posI xs x) : x ∈ xs ∧ posI xs x = (xs.idxOf x : Int) ∧ xs.idxOf x < xs.length := by
  unfold posI at h ⊢
  by_cases hm : x ∈ xs
  · rw [if_pos hm] at h ⊢; exact ⟨hm, rfl, List.idxOf_lt_length_of_mem hm⟩
  · rw [if_neg hm] at h; omega
theorem posI_get {xs : List Int} (h : xs.Nodup) {i : Nat} (hi : i < xs.length) : posI xs xs[i] = (i : Int) := by
  unfold posI; rw [if_pos (List.getElem_mem hi), nodup_idx h hi]
theorem mapE_mem (f : Int → Int) (es : List Ed) (y : Ed) : y ∈ mapE f es ↔ (∃ e ∈ es, y = (f e.1, f e.2)) ∧ 0 ≤ y.1 ∧ 0 ≤ y.2 := by
  simp only [mapE, List.mem_filter, List.mem_map, Bool.and_eq_true, decide_eq_true_eq]
  constructor
  · rintro ⟨⟨e, he, rfl⟩, h⟩; exact ⟨⟨e, he, rfl⟩, h⟩
  · rintro ⟨⟨e, he, rfl⟩, h⟩; exact ⟨⟨e, he, rfl⟩, h⟩
theorem ind_same {n : Int} {es : List Ed} {xs : List Int} (hl : xs.length ≤ 1000) : inducedE n es xs = refIndE n es xs := by
  unfold inducedE refIndE
  by_cases hR : rightE n es = false
  · rw [if_pos hR, if_pos hR]
  rw [if_neg hR, if_neg hR]
  by_cases hb : xs.any (badI n) = true
  · rw [if_pos hb, if_pos hb]
  rw [if_neg hb, if_neg hb]
  by_cases hnd : xs.Nodup
  · rw [if_neg (by simp [hnd]), if_neg (by simp [hnd])]
    have hR' : rightE n es = true := by simpa using hR
    have hn := right_len hR'
    have hlt := right_lt hR'
    have hok : (mapE (posI xs) es).all (okEnds xs.length) = true := by
      rw [List.all_eq_true]
      intro y hy
      obtain ⟨⟨e, he, rfl⟩, h1, h2⟩ := (mapE_mem _ _ _).1 hy
      obtain ⟨_, e1, l1⟩ := posI_mem h1
      obtain ⟨_, e2, l2⟩ := posI_mem h2
      rw [okEnds, decide_eq_true (by simp only; omega), decide_eq_true (by simp only; omega)]; rfl
    have hle := setE_le (mapE (posI xs) es)
    have hle2 := mapE_len (posI xs) es
    rw [normalE_ok (by omega) (by omega) hok (by omega)]
    congr 2
    refine strict_eq _ _ (setE_strict _) (accE_strict _ _) fun x => ?_
    rw [setE_mem, normsE_mem, accE_mem]
    have hgd : ∀ (i : Nat) (hi : i < xs.length), xs.getD i 0 = xs[i] := fun i hi => by rw [List.getD_eq_getElem?_getD, List.getElem?_eq_getElem hi]; rfl
    constructor
    · rintro ⟨y, hy, hne, rfl⟩
      obtain ⟨⟨e, he, rfl⟩, h1, h2⟩ := (mapE_mem _ _ _).1 hy
      obtain ⟨m1, e1, l1⟩ := posI_mem h1
      obtain ⟨m2, e2, l2⟩ := posI_mem h2
      have g1 : xs[xs.idxOf e.1] = e.1 := List.getElem_idxOf l1
      have g2 : xs[xs.idxOf e.2] = e.2 := List.getElem_idxOf l2
      simp only at hne e1 e2 ⊢
      rw [e1, e2] at hne ⊢
      rcases Nat.lt_or_ge (xs.idxOf e.1) (xs.idxOf e.2) with h | h
      · refine ⟨_, _, h, l2, ?_, ?_⟩
        · rw [hgd _ l1, hgd _ l2, g1, g2, hasE_iff hR']; exact .inl he
        · rw [Int.min_eq_left (by omega), Int.max_eq_right (by omega)]
      · refine ⟨_, _, (by omega : xs.idxOf e.2 < xs.idxOf e.1), l1, ?_, ?_⟩
        · rw [hgd _ l1, hgd _ l2, g1, g2, hasE_iff hR']; exact .inr he
        · rw [Int.min_eq_right (by omega), Int.max_eq_left (by omega)]
    · rintro ⟨i, j, hij, hj, hf, rfl⟩
      have hi : i < xs.length := by omega
      rw [hgd i hi, hgd j hj, hasE_iff hR'] at hf
      have p1 := posI_get hnd hi
      have p2 := posI_get hnd hj
      rcases hf with hf | hf
      · exact ⟨(posI xs xs[i], posI xs xs[j]), (mapE_mem _ _ _).2 ⟨⟨_, hf, rfl⟩, by simp only; omega, by simp only; omega⟩, by simp only; omega, by simp only; rw [p1, p2, Int.min_eq_left (by omega), Int.max_eq_right (by omega)]⟩
      · exact ⟨(posI xs xs[j], posI xs xs[i]), (mapE_mem _ _ _).2 ⟨⟨_, hf, rfl⟩, by simp only; omega, by simp only; omega⟩, by simp only; omega, by simp only; rw [p1, p2, Int.min_eq_right (by omega), Int.max_eq_left (by omega)]⟩
  · rw [if_pos hnd, if_pos hnd]
/-- What the laws on sub ask of the functions. -/
structure SC (A : AProg) (φ : Nat → Nat) : Prop where
  of : ∀ n most v l, IsE v l → 0 ≤ most → most ≤ 1000 → PVal A (φ 39) [gV n v, .int .i64 most] (gV (anyN n most) (rE (anyE n most l)))
  ind : ∀ n v es lv xs, IsE v es → IsI lv xs → xs.length ≤ 100000 → PVal A (φ 40) [gV n v, lv] (gR (inducedE n es xs))
  rind : ∀ n v es lv xs, IsE v es → IsI lv xs → xs.length ≤ 1000 → PVal A (φ 41) [gV n v, lv] (gR (refIndE n es xs))
  sameG : ∀ n m v u xs ys, IsE v xs → IsE u ys → xs.length < 1000000000000 → PVal A (φ 3) [gV n v, gV m u] (.bool (decide (n = m ∧ xs = ys)))
end Go.Ai.G
/- sub.Delete. -/
namespace Go.Ai.G
open Go.Ai
set_option maxRecDepth 100000
set_option linter.unusedSimpArgs false
set_option linter.unusedVariables false
variable {A : AProg} {φ : Nat → Nat}
attribute [local simp ↓] getD_z getD_s hid_k hid_o hid_q hid_v PO_nil PO_none PO_grd PD_nil PD_none PD_grd PDO_N PDO_X PDO_call PDO_calli PDO_callv PStep_N PStep_X PStep_call PStep_calli PC_skip PC_lab
  PC_ret PC_exit PC_reg PC_draw PC_seq PC_block PC_loop PC_scope PC_cond thenC_norm thenC_ret thenC_exit blockC_norm blockC_ret blockC_exit loopC_norm loopC_ret loopC_exit endR_ret
  endR_norm
attribute [local simp] gz PDX_free PDX_eq PStep_callv resK_none resK_t resK_tt KNO_val KNO_new KNO_ite KNO_map KXO_some KXO_ite KVA_t KVA_f KG_skip KG_tt KG_ff KG_tf KG_ft KB_true KB_false KNOD_val
  KNOD_new KNOD_ite n_mv n_pick n_bin n_eqB n_eqN n_eqS n_un n_conv n_fadd n_faddV n_fld1 n_fldN n_idx n_idxA n_idxV n_idxAV n_ext n_lenS n_lenS0 n_lenV n_lenT n_lenA n_min n_max
  n_build n_mkfn n_slc n_slc0 n_slcV n_slcA n_load1 n_loadN n_load1V n_loadNV n_alloc n_box n_bsl n_mksl n_nilcP n_nilcV n_nilcI n_nilcF x_store x_clear0 x_clear b_add b_sub b_mul
  b_eql b_neq b_lss b_leq b_gtr b_geq b_and16 unV ntouch gather hide unhide evalOpd applyOuts int_bne int_beq ite_bool ite_int one_bool cells_bool one_int cells_int one_str cells_str
  one_nilp cells_nilp one_ptr cells_ptr one_nils cells_nils one_sl cells_sl one_nilf cells_nilf one_fn cells_fn one_nili cells_nili one_mp cells_mp one_nilm cells_nilm one_iface
  cells_iface one_vs cells_vs one_vp cells_vp cells_agg Nat.testBit setAt_1 setAt_2 closeds_nil closeds_cons closed_bool closed_int closed_str closed_nilp closed_nils closed_nilm
  closed_nilf closed_nili closed_agg closed_tup closed_vs closed_vp closed_iface closed_fn closeds_cI closeds_cE viewA_closed viewR_closed AV.scal AV.scal0 fillA repA part_bool
  part_int part_str part_nilp part_ptr part_nils part_sl part_nilm part_mp part_nilf part_fn part_nili part_iface part_agg part_vs part_vp viewA_sl1 vaSl_cells wrap_0 wrap_1 wrap_2
  wrap_m1 set_last get_last
end Go.Ai.G
/- SubLeaves. -/
namespace Go.Ai.G
open Go.Ai
set_option maxRecDepth 100000
set_option linter.unusedSimpArgs false
set_option linter.unusedVariables false
variable {A : AProg} {φ : Nat → Nat}
end Go.Ai.G
/- SubLeaves, the walk. -/
namespace Go.Ai.G
open Go.Ai
set_option maxRecDepth 100000
set_option linter.unusedSimpArgs false
set_option linter.unusedVariables false
variable {A : AProg} {φ : Nat → Nat}
attribute [local simp ↓] getD_z getD_s hid_k hid_o hid_q hid_v PO_nil PO_none PO_grd PD_nil PD_none PD_grd PDO_N PDO_X PDO_call PDO_calli PDO_callv PStep_N PStep_X PStep_call PStep_calli PC_skip PC_lab
  PC_ret PC_exit PC_reg PC_draw PC_seq PC_block PC_loop PC_scope PC_cond thenC_norm thenC_ret thenC_exit blockC_norm blockC_ret blockC_exit loopC_norm loopC_ret loopC_exit endR_ret
  endR_norm
attribute [local simp] gz PDX_free PDX_eq PStep_callv resK_none resK_t resK_tt KNO_val KNO_new KNO_ite KNO_map KXO_some KXO_ite KVA_t KVA_f KG_skip KG_tt KG_ff KG_tf KG_ft KB_true KB_false KNOD_val
  KNOD_new KNOD_ite n_mv n_pick n_bin n_eqB n_eqN n_eqS n_un n_conv n_fadd n_faddV n_fld1 n_fldN n_idx n_idxA n_idxV n_idxAV n_ext n_lenS n_lenS0 n_lenV n_lenT n_lenA n_min n_max
  n_build n_mkfn n_slc n_slc0 n_slcV n_slcA n_load1 n_loadN n_load1V n_loadNV n_alloc n_box n_bsl n_mksl n_nilcP n_nilcV n_nilcI n_nilcF x_store x_clear0 x_clear b_add b_sub b_mul
  b_eql b_neq b_lss b_leq b_gtr b_geq b_and16 unV ntouch gather hide unhide evalOpd applyOuts int_bne int_beq ite_bool ite_int one_bool cells_bool one_int cells_int one_str cells_str
  one_nilp cells_nilp one_ptr cells_ptr one_nils cells_nils one_sl cells_sl one_nilf cells_nilf one_fn cells_fn one_nili cells_nili one_mp cells_mp one_nilm cells_nilm one_iface
  cells_iface one_vs cells_vs one_vp cells_vp cells_agg Nat.testBit setAt_1 setAt_2 closeds_nil closeds_cons closed_bool closed_int closed_str closed_nilp closed_nils closed_nilm
  closed_nilf closed_nili closed_agg closed_tup closed_vs closed_vp closed_iface closed_fn closeds_cI closeds_cE viewA_closed viewR_closed AV.scal AV.scal0 fillA repA part_bool
  part_int part_str part_nilp part_ptr part_nils part_sl part_nilm part_mp part_nilf part_fn part_nili part_iface part_agg part_vs part_vp viewA_sl1 vaSl_cells wrap_0 wrap_1 wrap_2
  wrap_m1 set_last get_last
end Go.Ai.G
/- sub.Contract. -/
namespace Go.Ai.G
open Go.Ai
set_option maxRecDepth 100000
set_option linter.unusedSimpArgs false
set_option linter.unusedVariables false
variable {A : AProg} {φ : Nat → Nat}
attribute [local simp ↓] getD_z getD_s hid_k hid_o hid_q hid_v PO_nil PO_none PO_grd PD_nil PD_none PD_grd PDO_N PDO_X PDO_call PDO_calli PDO_callv PStep_N PStep_X PStep_call PStep_calli PC_skip PC_lab
  PC_ret PC_exit PC_reg PC_draw PC_seq PC_block PC_loop PC_scope PC_cond thenC_norm thenC_ret thenC_exit blockC_norm blockC_ret blockC_exit loopC_norm loopC_ret loopC_exit endR_ret
  endR_norm
attribute [local simp] gz PDX_free PDX_eq PStep_callv resK_none resK_t resK_tt KNO_val KNO_new KNO_ite KNO_map KXO_some KXO_ite KVA_t KVA_f KG_skip KG_tt KG_ff KG_tf KG_ft KB_true KB_false KNOD_val
  KNOD_new KNOD_ite n_mv n_pick n_bin n_eqB n_eqN n_eqS n_un n_conv n_fadd n_faddV n_fld1 n_fldN n_idx n_idxA n_idxV n_idxAV n_ext n_lenS n_lenS0 n_lenV n_lenT n_lenA n_min n_max
  n_build n_mkfn n_slc n_slc0 n_slcV n_slcA n_load1 n_loadN n_load1V n_loadNV n_alloc n_box n_bsl n_mksl n_nilcP n_nilcV n_nilcI n_nilcF x_store x_clear0 x_clear b_add b_sub b_mul
  b_eql b_neq b_lss b_leq b_gtr b_geq b_and16 unV ntouch gather hide unhide evalOpd applyOuts int_bne int_beq ite_bool ite_int one_bool cells_bool one_int cells_int one_str cells_str
  one_nilp cells_nilp one_ptr cells_ptr one_nils cells_nils one_sl cells_sl one_nilf cells_nilf one_fn cells_fn one_nili cells_nili one_mp cells_mp one_nilm cells_nilm one_iface
  cells_iface one_vs cells_vs one_vp cells_vp cells_agg Nat.testBit setAt_1 setAt_2 closeds_nil closeds_cons closed_bool closed_int closed_str closed_nilp closed_nils closed_nilm
  closed_nilf closed_nili closed_agg closed_tup closed_vs closed_vp closed_iface closed_fn closeds_cI closeds_cE viewA_closed viewR_closed AV.scal AV.scal0 fillA repA part_bool
  part_int part_str part_nilp part_ptr part_nils part_sl part_nilm part_mp part_nilf part_fn part_nili part_iface part_agg part_vs part_vp viewA_sl1 vaSl_cells wrap_0 wrap_1 wrap_2
  wrap_m1 set_last get_last
end Go.Ai.G
/- SubWrong. -/
namespace Go.Ai.G
open Go.Ai
set_option maxRecDepth 100000
set_option linter.unusedSimpArgs false
set_option linter.unusedVariables false
variable {A : AProg} {φ : Nat → Nat}
attribute [local simp ↓] getD_z getD_s hid_k hid_o hid_q hid_v PO_nil PO_none PO_grd PD_nil PD_none PD_grd PDO_N PDO_X PDO_call PDO_calli PDO_callv PStep_N PStep_X PStep_call PStep_calli PC_skip PC_lab
  PC_ret PC_exit PC_reg PC_draw PC_seq PC_block PC_loop PC_scope PC_cond thenC_norm thenC_ret thenC_exit blockC_norm blockC_ret blockC_exit loopC_norm loopC_ret loopC_exit endR_ret
  endR_norm
attribute [local simp] gz PDX_free PDX_eq PStep_callv resK_none resK_t resK_tt KNO_val KNO_new KNO_ite KNO_map KXO_some KXO_ite KVA_t KVA_f KG_skip KG_tt KG_ff KG_tf KG_ft KB_true KB_false KNOD_val
  KNOD_new KNOD_ite n_mv n_pick n_bin n_eqB n_eqN n_eqS n_un n_conv n_fadd n_faddV n_fld1 n_fldN n_idx n_idxA n_idxV n_idxAV n_ext n_lenS n_lenS0 n_lenV n_lenT n_lenA n_min n_max
  n_build n_mkfn n_slc n_slc0 n_slcV n_slcA n_load1 n_loadN n_load1V n_loadNV n_alloc n_box n_bsl n_mksl n_nilcP n_nilcV n_nilcI n_nilcF x_store x_clear0 x_clear b_add b_sub b_mul
  b_eql b_neq b_lss b_leq b_gtr b_geq b_and16 unV ntouch gather hide unhide evalOpd applyOuts int_bne int_beq ite_bool ite_int one_bool cells_bool one_int cells_int one_str cells_str
  one_nilp cells_nilp one_ptr cells_ptr one_nils cells_nils one_sl cells_sl one_nilf cells_nilf one_fn cells_fn one_nili cells_nili one_mp cells_mp one_nilm cells_nilm one_iface
  cells_iface one_vs cells_vs one_vp cells_vp cells_agg Nat.testBit setAt_1 setAt_2 closeds_nil closeds_cons closed_bool closed_int closed_str closed_nilp closed_nils closed_nilm
  closed_nilf closed_nili closed_agg closed_tup closed_vs closed_vp closed_iface closed_fn closeds_cI closeds_cE viewA_closed viewR_closed AV.scal AV.scal0 fillA repA part_bool
  part_int part_str part_nilp part_ptr part_nils part_sl part_nilm part_mp part_nilf part_fn part_nili part_iface part_agg part_vs part_vp viewA_sl1 vaSl_cells wrap_0 wrap_1 wrap_2
  wrap_m1 set_last get_last
theorem frzH_app (H : Heap) : ∀ (l1 l2 : List Nat), frzH (l1 ++ l2) H = frzH l2 (frzH l1 H) := by
  intro l1
  induction l1 generalizing H with
  | nil => intro l2; rfl
  | cons a l ih => intro l2; simp only [List.cons_append, frzH]; exact ih _ l2
theorem frz_loc {H H' : Heap} {o : AV} {b : Nat} (hl : H.length = H'.length) (h : H[b]? = H'[b]?) (hb : blkOf o = some b) : (frzOf H o)[b]? = (frzOf H' o)[b]? := by
  unfold frzOf
  rw [hb]
  simp only [frzH]
  rw [← h]
  cases hx : H[b]? with
  | none => simp only; rw [← h, hx]
  | some x =>
    have hlt := lt_of_get hx
    cases x with
    | cells gg ro c =>
      cases ro with
      | true => simp only; rw [← h, hx]
      | false => simp only; rw [List.getElem?_set_self hlt, List.getElem?_set_self (by omega)]
    | _ => simp only; rw [← h, hx]
theorem frz_comm (H : Heap) {o s : AV} (hd : ∀ b, blkOf o = some b → blkOf s ≠ some b) : frzOf (frzOf H o) s = frzOf (frzOf H s) o := by
  apply List.ext_getElem?
  intro i
  by_cases h1 : blkOf o = some i
  · have h2 := hd i h1
    rw [frzOf_get _ _ h2]
    exact frz_loc (by rw [frzOf_len]) (frzOf_get H s h2).symm h1
  · rw [frzOf_get (frzOf H s) o h1]
    by_cases h2 : blkOf s = some i
    · exact (frz_loc (by rw [frzOf_len]) (frzOf_get H o h1).symm h2).symm
    · rw [frzOf_get _ _ h2, frzOf_get _ _ h2, frzOf_get _ _ h1]
theorem Vw.two {H : Heap} {nl nl2 : Bool} {o s : AV} {n m : Nat} {c d : List AV} (h : Vw nl H o 2 n c) (hc : AV.closeds c = true) (hs : Vw nl2 H s 1 m d) (hdc : AV.closeds d = true) (hd : ∀ b, blkOf o = some b → blkOf s ≠ some b) (k : Int) :
    viewA H [.agg [.int .i64 k, o], s] = some ([.agg [.int .i64 k, rv nl n 2 c], rv nl2 m 1 d], frzOf (frzOf H o) s) := by
  rw [viewA_def]
  have e1 : reachL H fuelV [.agg [.int .i64 k, o], s] = (blkOf o).toList ++ (blkOf s).toList := by
    rw [show fuelV = 11 + 1 from rfl, reachL_cons, reachL_cons, reachL_nil, List.append_nil, show (11 : Nat) = 10 + 1 from rfl, reachV_agg, show (10 : Nat) = 9 + 1 from rfl, reachL_cons, reachL_cons, reachL_nil, List.append_nil, reachV_closed _ (by rfl), List.nil_append, show (9 : Nat) = 8 + 1 from rfl, h.reach hc, show (8 + 1 + 1 + 1 : Nat) = 10 + 1 from rfl, hs.reach hdc]
  have e2 : frzH ((blkOf o).toList ++ (blkOf s).toList) H = frzOf (frzOf H o) s := by rw [frzH_app, frzH_toList, frzH_toList]
  rw [e1, e2]
  have ho2 : Vw nl (frzOf H s) o 2 n c := h.keep fun b hb => frzOf_get H s (hd b hb)
  have hs2 : Vw nl2 (frzOf H o) s 1 m d := hs.keep fun b hb => frzOf_get H o (fun h' => hd b h' hb)
  have v1 : ∀ j, viewV (frzOf (frzOf H o) s) (j + 2) o = some (rv nl n 2 c) := fun j => by rw [frz_comm H hd]; exact ho2.seen hc j
  have v2 : ∀ j, viewV (frzOf (frzOf H o) s) (j + 2) s = some (rv nl2 m 1 d) := fun j => hs2.seen hdc j
  have w1 : viewV (frzOf (frzOf H o) s) (9 + 2) (.agg [.int .i64 k, o]) = some (.agg [.int .i64 k, rv nl n 2 c]) := by
    rw [viewV_agg, show (9 + 1 : Nat) = 8 + 2 from rfl, viewL_cons, viewV_closed _ (by rfl), viewL_cons, show (8 + 1 : Nat) = 7 + 2 from rfl, v1 7, viewL_closed _ (show AV.closeds [] = true from rfl)]
    rfl
  rw [show fuelV = 10 + 2 from rfl, viewL_cons, show (10 + 1 : Nat) = 9 + 2 from rfl, w1, viewL_cons, v2 9, viewL_closed _ (show AV.closeds [] = true from rfl)]
  rfl
end Go.Ai.G
/- GraphTurned. -/
namespace Go.Ai.G
open Go.Ai
set_option maxRecDepth 100000
set_option linter.unusedSimpArgs false
set_option linter.unusedVariables false
variable {A : AProg} {φ : Nat → Nat}
attribute [local simp ↓] getD_z getD_s hid_k hid_o hid_q hid_v PO_nil PO_none PO_grd PD_nil PD_none PD_grd PDO_N PDO_X PDO_call PDO_calli PDO_callv PStep_N PStep_X PStep_call PStep_calli PC_skip PC_lab
  PC_ret PC_exit PC_reg PC_draw PC_seq PC_block PC_loop PC_scope PC_cond thenC_norm thenC_ret thenC_exit blockC_norm blockC_ret blockC_exit loopC_norm loopC_ret loopC_exit endR_ret
  endR_norm
attribute [local simp] gz PDX_free PDX_eq PStep_callv resK_none resK_t resK_tt KNO_val KNO_new KNO_ite KNO_map KXO_some KXO_ite KVA_t KVA_f KG_skip KG_tt KG_ff KG_tf KG_ft KB_true KB_false KNOD_val
  KNOD_new KNOD_ite n_mv n_pick n_bin n_eqB n_eqN n_eqS n_un n_conv n_fadd n_faddV n_fld1 n_fldN n_idx n_idxA n_idxV n_idxAV n_ext n_lenS n_lenS0 n_lenV n_lenT n_lenA n_min n_max
  n_build n_mkfn n_slc n_slc0 n_slcV n_slcA n_load1 n_loadN n_load1V n_loadNV n_alloc n_box n_bsl n_mksl n_nilcP n_nilcV n_nilcI n_nilcF x_store x_clear0 x_clear b_add b_sub b_mul
  b_eql b_neq b_lss b_leq b_gtr b_geq b_and16 unV ntouch gather hide unhide evalOpd applyOuts int_bne int_beq ite_bool ite_int one_bool cells_bool one_int cells_int one_str cells_str
  one_nilp cells_nilp one_ptr cells_ptr one_nils cells_nils one_sl cells_sl one_nilf cells_nilf one_fn cells_fn one_nili cells_nili one_mp cells_mp one_nilm cells_nilm one_iface
  cells_iface one_vs cells_vs one_vp cells_vp cells_agg Nat.testBit setAt_1 setAt_2 closeds_nil closeds_cons closed_bool closed_int closed_str closed_nilp closed_nils closed_nilm
  closed_nilf closed_nili closed_agg closed_tup closed_vs closed_vp closed_iface closed_fn closeds_cI closeds_cE viewA_closed viewR_closed AV.scal AV.scal0 fillA repA part_bool
  part_int part_str part_nilp part_ptr part_nils part_sl part_nilm part_mp part_nilf part_fn part_nili part_iface part_agg part_vs part_vp viewA_sl1 vaSl_cells wrap_0 wrap_1 wrap_2
  wrap_m1 set_last get_last
end Go.Ai.G
/- GraphSum. -/
namespace Go.Ai.G
open Go.Ai
set_option maxRecDepth 100000
set_option linter.unusedSimpArgs false
set_option linter.unusedVariables false
variable {A : AProg} {φ : Nat → Nat}
attribute [local simp ↓] getD_z getD_s hid_k hid_o hid_q hid_v PO_nil PO_none PO_grd PD_nil PD_none PD_grd PDO_N PDO_X PDO_call PDO_calli PDO_callv PStep_N PStep_X PStep_call PStep_calli PC_skip PC_lab
  PC_ret PC_exit PC_reg PC_draw PC_seq PC_block PC_loop PC_scope PC_cond thenC_norm thenC_ret thenC_exit blockC_norm blockC_ret blockC_exit loopC_norm loopC_ret loopC_exit endR_ret
  endR_norm
attribute [local simp] gz PDX_free PDX_eq PStep_callv resK_none resK_t resK_tt KNO_val KNO_new KNO_ite KNO_map KXO_some KXO_ite KVA_t KVA_f KG_skip KG_tt KG_ff KG_tf KG_ft KB_true KB_false KNOD_val
  KNOD_new KNOD_ite n_mv n_pick n_bin n_eqB n_eqN n_eqS n_un n_conv n_fadd n_faddV n_fld1 n_fldN n_idx n_idxA n_idxV n_idxAV n_ext n_lenS n_lenS0 n_lenV n_lenT n_lenA n_min n_max
  n_build n_mkfn n_slc n_slc0 n_slcV n_slcA n_load1 n_loadN n_load1V n_loadNV n_alloc n_box n_bsl n_mksl n_nilcP n_nilcV n_nilcI n_nilcF x_store x_clear0 x_clear b_add b_sub b_mul
  b_eql b_neq b_lss b_leq b_gtr b_geq b_and16 unV ntouch gather hide unhide evalOpd applyOuts int_bne int_beq ite_bool ite_int one_bool cells_bool one_int cells_int one_str cells_str
  one_nilp cells_nilp one_ptr cells_ptr one_nils cells_nils one_sl cells_sl one_nilf cells_nilf one_fn cells_fn one_nili cells_nili one_mp cells_mp one_nilm cells_nilm one_iface
  cells_iface one_vs cells_vs one_vp cells_vp cells_agg Nat.testBit setAt_1 setAt_2 closeds_nil closeds_cons closed_bool closed_int closed_str closed_nilp closed_nils closed_nilm
  closed_nilf closed_nili closed_agg closed_tup closed_vs closed_vp closed_iface closed_fn closeds_cI closeds_cE viewA_closed viewR_closed AV.scal AV.scal0 fillA repA part_bool
  part_int part_str part_nilp part_ptr part_nils part_sl part_nilm part_mp part_nilf part_fn part_nili part_iface part_agg part_vs part_vp viewA_sl1 vaSl_cells wrap_0 wrap_1 wrap_2
  wrap_m1 set_last get_last
end Go.Ai.G
/- SubCounts, the pure law. -/
namespace Go.Ai.G
open Go.Ai
set_option maxRecDepth 100000
set_option linter.unusedSimpArgs false
set_option linter.unusedVariables false
variable {A : AProg} {φ : Nat → Nat}
end Go.Ai.G
/- SubCounts, the walk. -/
namespace Go.Ai.G
open Go.Ai
set_option maxRecDepth 100000
set_option linter.unusedSimpArgs false
set_option linter.unusedVariables false
variable {A : AProg} {φ : Nat → Nat}
attribute [local simp ↓] getD_z getD_s hid_k hid_o hid_q hid_v PO_nil PO_none PO_grd PD_nil PD_none PD_grd PDO_N PDO_X PDO_call PDO_calli PDO_callv PStep_N PStep_X PStep_call PStep_calli PC_skip PC_lab
  PC_ret PC_exit PC_reg PC_draw PC_seq PC_block PC_loop PC_scope PC_cond thenC_norm thenC_ret thenC_exit blockC_norm blockC_ret blockC_exit loopC_norm loopC_ret loopC_exit endR_ret
  endR_norm
attribute [local simp] gz PDX_free PDX_eq PStep_callv resK_none resK_t resK_tt KNO_val KNO_new KNO_ite KNO_map KXO_some KXO_ite KVA_t KVA_f KG_skip KG_tt KG_ff KG_tf KG_ft KB_true KB_false KNOD_val
  KNOD_new KNOD_ite n_mv n_pick n_bin n_eqB n_eqN n_eqS n_un n_conv n_fadd n_faddV n_fld1 n_fldN n_idx n_idxA n_idxV n_idxAV n_ext n_lenS n_lenS0 n_lenV n_lenT n_lenA n_min n_max
  n_build n_mkfn n_slc n_slc0 n_slcV n_slcA n_load1 n_loadN n_load1V n_loadNV n_alloc n_box n_bsl n_mksl n_nilcP n_nilcV n_nilcI n_nilcF x_store x_clear0 x_clear b_add b_sub b_mul
  b_eql b_neq b_lss b_leq b_gtr b_geq b_and16 unV ntouch gather hide unhide evalOpd applyOuts int_bne int_beq ite_bool ite_int one_bool cells_bool one_int cells_int one_str cells_str
  one_nilp cells_nilp one_ptr cells_ptr one_nils cells_nils one_sl cells_sl one_nilf cells_nilf one_fn cells_fn one_nili cells_nili one_mp cells_mp one_nilm cells_nilm one_iface
  cells_iface one_vs cells_vs one_vp cells_vp cells_agg Nat.testBit setAt_1 setAt_2 closeds_nil closeds_cons closed_bool closed_int closed_str closed_nilp closed_nils closed_nilm
  closed_nilf closed_nili closed_agg closed_tup closed_vs closed_vp closed_iface closed_fn closeds_cI closeds_cE viewA_closed viewR_closed AV.scal AV.scal0 fillA repA part_bool
  part_int part_str part_nilp part_ptr part_nils part_sl part_nilm part_mp part_nilf part_fn part_nili part_iface part_agg part_vs part_vp viewA_sl1 vaSl_cells wrap_0 wrap_1 wrap_2
  wrap_m1 set_last get_last
end Go.Ai.G
/- ref06.Others, ref06.Delete. -/
namespace Go.Ai.G
open Go.Ai
set_option maxRecDepth 100000
set_option linter.unusedSimpArgs false
set_option linter.unusedVariables false
variable {A : AProg} {φ : Nat → Nat}
attribute [local simp ↓] getD_z getD_s hid_k hid_o hid_q hid_v PO_nil PO_none PO_grd PD_nil PD_none PD_grd PDO_N PDO_X PDO_call PDO_calli PDO_callv PStep_N PStep_X PStep_call PStep_calli PC_skip PC_lab
  PC_ret PC_exit PC_reg PC_draw PC_seq PC_block PC_loop PC_scope PC_cond thenC_norm thenC_ret thenC_exit blockC_norm blockC_ret blockC_exit loopC_norm loopC_ret loopC_exit endR_ret
  endR_norm
attribute [local simp] gz PDX_free PDX_eq PStep_callv resK_none resK_t resK_tt KNO_val KNO_new KNO_ite KNO_map KXO_some KXO_ite KVA_t KVA_f KG_skip KG_tt KG_ff KG_tf KG_ft KB_true KB_false KNOD_val
  KNOD_new KNOD_ite n_mv n_pick n_bin n_eqB n_eqN n_eqS n_un n_conv n_fadd n_faddV n_fld1 n_fldN n_idx n_idxA n_idxV n_idxAV n_ext n_lenS n_lenS0 n_lenV n_lenT n_lenA n_min n_max
  n_build n_mkfn n_slc n_slc0 n_slcV n_slcA n_load1 n_loadN n_load1V n_loadNV n_alloc n_box n_bsl n_mksl n_nilcP n_nilcV n_nilcI n_nilcF x_store x_clear0 x_clear b_add b_sub b_mul
  b_eql b_neq b_lss b_leq b_gtr b_geq b_and16 unV ntouch gather hide unhide evalOpd applyOuts int_bne int_beq ite_bool ite_int one_bool cells_bool one_int cells_int one_str cells_str
  one_nilp cells_nilp one_ptr cells_ptr one_nils cells_nils one_sl cells_sl one_nilf cells_nilf one_fn cells_fn one_nili cells_nili one_mp cells_mp one_nilm cells_nilm one_iface
  cells_iface one_vs cells_vs one_vp cells_vp cells_agg Nat.testBit setAt_1 setAt_2 closeds_nil closeds_cons closed_bool closed_int closed_str closed_nilp closed_nils closed_nilm
  closed_nilf closed_nili closed_agg closed_tup closed_vs closed_vp closed_iface closed_fn closeds_cI closeds_cE viewA_closed viewR_closed AV.scal AV.scal0 fillA repA part_bool
  part_int part_str part_nilp part_ptr part_nils part_sl part_nilm part_mp part_nilf part_fn part_nili part_iface part_agg part_vs part_vp viewA_sl1 vaSl_cells wrap_0 wrap_1 wrap_2
  wrap_m1 set_last get_last
end Go.Ai.G
/- ref06.Contract, the pure law: it answers what sub.Contract answers. -/
namespace Go.Ai.G
open Go.Ai
set_option maxRecDepth 100000
set_option linter.unusedSimpArgs false
set_option linter.unusedVariables false
variable {A : AProg} {φ : Nat → Nat}
end Go.Ai.G
/- ref06.Contract, the walk. -/
namespace Go.Ai.G
open Go.Ai
set_option maxRecDepth 100000
set_option linter.unusedSimpArgs false
set_option linter.unusedVariables false
variable {A : AProg} {φ : Nat → Nat}
attribute [local simp ↓] getD_z getD_s hid_k hid_o hid_q hid_v PO_nil PO_none PO_grd PD_nil PD_none PD_grd PDO_N PDO_X PDO_call PDO_calli PDO_callv PStep_N PStep_X PStep_call PStep_calli PC_skip PC_lab
  PC_ret PC_exit PC_reg PC_draw PC_seq PC_block PC_loop PC_scope PC_cond thenC_norm thenC_ret thenC_exit blockC_norm blockC_ret blockC_exit loopC_norm loopC_ret loopC_exit endR_ret
  endR_norm
attribute [local simp] gz PDX_free PDX_eq PStep_callv resK_none resK_t resK_tt KNO_val KNO_new KNO_ite KNO_map KXO_some KXO_ite KVA_t KVA_f KG_skip KG_tt KG_ff KG_tf KG_ft KB_true KB_false KNOD_val
  KNOD_new KNOD_ite n_mv n_pick n_bin n_eqB n_eqN n_eqS n_un n_conv n_fadd n_faddV n_fld1 n_fldN n_idx n_idxA n_idxV n_idxAV n_ext n_lenS n_lenS0 n_lenV n_lenT n_lenA n_min n_max
  n_build n_mkfn n_slc n_slc0 n_slcV n_slcA n_load1 n_loadN n_load1V n_loadNV n_alloc n_box n_bsl n_mksl n_nilcP n_nilcV n_nilcI n_nilcF x_store x_clear0 x_clear b_add b_sub b_mul
  b_eql b_neq b_lss b_leq b_gtr b_geq b_and16 unV ntouch gather hide unhide evalOpd applyOuts int_bne int_beq ite_bool ite_int one_bool cells_bool one_int cells_int one_str cells_str
  one_nilp cells_nilp one_ptr cells_ptr one_nils cells_nils one_sl cells_sl one_nilf cells_nilf one_fn cells_fn one_nili cells_nili one_mp cells_mp one_nilm cells_nilm one_iface
  cells_iface one_vs cells_vs one_vp cells_vp cells_agg Nat.testBit setAt_1 setAt_2 closeds_nil closeds_cons closed_bool closed_int closed_str closed_nilp closed_nils closed_nilm
  closed_nilf closed_nili closed_agg closed_tup closed_vs closed_vp closed_iface closed_fn closeds_cI closeds_cE viewA_closed viewR_closed AV.scal AV.scal0 fillA repA part_bool
  part_int part_str part_nilp part_ptr part_nils part_sl part_nilm part_mp part_nilf part_fn part_nili part_iface part_agg part_vs part_vp viewA_sl1 vaSl_cells wrap_0 wrap_1 wrap_2
  wrap_m1 set_last get_last
end Go.Ai.G
/- SubTells. -/
namespace Go.Ai.G
open Go.Ai
set_option maxRecDepth 100000
set_option linter.unusedSimpArgs false
set_option linter.unusedVariables false
variable {A : AProg} {φ : Nat → Nat}
attribute [local simp ↓] getD_z getD_s hid_k hid_o hid_q hid_v PO_nil PO_none PO_grd PD_nil PD_none PD_grd PDO_N PDO_X PDO_call PDO_calli PDO_callv PStep_N PStep_X PStep_call PStep_calli PC_skip PC_lab
  PC_ret PC_exit PC_reg PC_draw PC_seq PC_block PC_loop PC_scope PC_cond thenC_norm thenC_ret thenC_exit blockC_norm blockC_ret blockC_exit loopC_norm loopC_ret loopC_exit endR_ret
  endR_norm
attribute [local simp] gz PDX_free PDX_eq PStep_callv resK_none resK_t resK_tt KNO_val KNO_new KNO_ite KNO_map KXO_some KXO_ite KVA_t KVA_f KG_skip KG_tt KG_ff KG_tf KG_ft KB_true KB_false KNOD_val
  KNOD_new KNOD_ite n_mv n_pick n_bin n_eqB n_eqN n_eqS n_un n_conv n_fadd n_faddV n_fld1 n_fldN n_idx n_idxA n_idxV n_idxAV n_ext n_lenS n_lenS0 n_lenV n_lenT n_lenA n_min n_max
  n_build n_mkfn n_slc n_slc0 n_slcV n_slcA n_load1 n_loadN n_load1V n_loadNV n_alloc n_box n_bsl n_mksl n_nilcP n_nilcV n_nilcI n_nilcF x_store x_clear0 x_clear b_add b_sub b_mul
  b_eql b_neq b_lss b_leq b_gtr b_geq b_and16 unV ntouch gather hide unhide evalOpd applyOuts int_bne int_beq ite_bool ite_int one_bool cells_bool one_int cells_int one_str cells_str
  one_nilp cells_nilp one_ptr cells_ptr one_nils cells_nils one_sl cells_sl one_nilf cells_nilf one_fn cells_fn one_nili cells_nili one_mp cells_mp one_nilm cells_nilm one_iface
  cells_iface one_vs cells_vs one_vp cells_vp cells_agg Nat.testBit setAt_1 setAt_2 closeds_nil closeds_cons closed_bool closed_int closed_str closed_nilp closed_nils closed_nilm
  closed_nilf closed_nili closed_agg closed_tup closed_vs closed_vp closed_iface closed_fn closeds_cI closeds_cE viewA_closed viewR_closed AV.scal AV.scal0 fillA repA part_bool
  part_int part_str part_nilp part_ptr part_nils part_sl part_nilm part_mp part_nilf part_fn part_nili part_iface part_agg part_vs part_vp viewA_sl1 vaSl_cells wrap_0 wrap_1 wrap_2
  wrap_m1 set_last get_last
end Go.Ai.G
/- SubOrder, the pure law: a graph told in another order and told back. -/
namespace Go.Ai.G
open Go.Ai
set_option maxRecDepth 100000
set_option linter.unusedSimpArgs false
set_option linter.unusedVariables false
variable {A : AProg} {φ : Nat → Nat}
/-- A row of all numbers below N, in some order. -/
def OrdL (N : Nat) (l : List Int) : Prop := l.length = N ∧ l.Nodup ∧ ∀ x, x ∈ l ↔ 0 ≤ x ∧ x < (N : Int)
theorem ord_nil : OrdL 0 [] := ⟨rfl, List.nodup_nil, fun x => by simp <;> omega⟩
theorem ord_ins {N : Nat} {l : List Int} (h : OrdL N l) (p : Nat) : OrdL (N + 1) (l.take p ++ [(N : Int)] ++ l.drop p) := by
  obtain ⟨h1, h2, h3⟩ := h
  have hp : (l.take p ++ [(N : Int)] ++ l.drop p).Perm ((N : Int) :: l) := by
    have := List.perm_middle (a := (N : Int)) (l₁ := l.take p) (l₂ := l.drop p)
    rw [List.take_append_drop] at this
    simpa using this
  refine ⟨by rw [hp.length_eq]; simp [h1], ?_, fun x => ?_⟩
  · rw [hp.nodup_iff, List.nodup_cons]
    exact ⟨fun hm => by have := (h3 _).1 hm; omega, h2⟩
  · rw [hp.mem_iff, List.mem_cons, h3]; omega
def backL (N : Nat) (l : List Int) : List Int := (List.range N).map fun (v : Nat) => (l.idxOf (v : Int) : Int)
theorem ord_get {N : Nat} {l : List Int} (h : OrdL N l) {v : Nat} (hv : v < N) : l.idxOf (v : Int) < N ∧ l.getD (l.idxOf (v : Int)) 0 = (v : Int) := by
  obtain ⟨h1, h2, h3⟩ := h
  have hm : (v : Int) ∈ l := (h3 _).2 (by omega)
  have hlt := List.idxOf_lt_length_of_mem hm
  refine ⟨by omega, ?_⟩
  rw [List.getD_eq_getElem?_getD, List.getElem?_eq_getElem hlt]
  simp
theorem back_ord {N : Nat} {l : List Int} (h : OrdL N l) : (backL N l).length = N ∧ (backL N l).Nodup ∧ (backL N l).any (badI N) = false := by
  refine ⟨by simp [backL], ?_, ?_⟩
  · unfold backL
    rw [List.Nodup, List.pairwise_map]
    refine List.Pairwise.imp_of_mem ?_ (List.nodup_range (n := N))
    intro a b ha hb hne he
    have ka := ord_get h (List.mem_range.1 ha)
    have kb := ord_get h (List.mem_range.1 hb)
    have : l.idxOf (a : Int) = l.idxOf (b : Int) := by omega
    rw [this] at ka
    have := ka.2.symm.trans kb.2
    omega
  · rw [List.any_eq_false]
    intro x hx
    simp only [backL, List.mem_map, List.mem_range] at hx
    obtain ⟨v, hv, rfl⟩ := hx
    have := ord_get h hv
    simp only [badI, Bool.or_eq_true, decide_eq_true_eq]; omega
theorem hasE_symm {n : Int} {es : List Ed} (hR : rightE n es = true) (a b : Int) : hasE n es a b = hasE n es b a := by
  rw [Bool.eq_iff_iff, hasE_iff hR, hasE_iff hR]; exact or_comm
theorem order_law {N : Nat} {E : List Ed} {l : List Int} (hR : rightE N E = true) (hN : N ≤ 1000) (h : OrdL N l) :
    ∃ hE, inducedE N E l = ((N : Int), hE, 0) ∧ rightE N hE = true ∧ hE.length = E.length ∧ (∀ a b : Nat, a < N → b < N → a ≠ b → hasE N hE a b = hasE N E (l.getD a 0) (l.getD b 0)) ∧ inducedE N hE (backL N l) = ((N : Int), E, 0) := by
  obtain ⟨h1, h2, h3⟩ := h
  have hbad : l.any (badI N) = false := by
    rw [List.any_eq_false]
    intro x hx
    have := (h3 x).1 hx
    simp only [badI, Bool.or_eq_true, decide_eq_true_eq]; omega
  have hn := right_len hR
  have e1 : inducedE N E l = normalE l.length (mapE (posI l) E) := by
    unfold inducedE
    rw [if_neg (by simp [hR]), if_neg (by rw [hbad]; simp), if_neg (by simp [h2])]
  have e2 : inducedE N E l = ((N : Int), accE (fun a b => hasE N E (l.getD a 0) (l.getD b 0)) N N N, 0) := by
    rw [ind_same (by omega)]
    unfold refIndE
    rw [if_neg (by simp [hR]), if_neg (by rw [hbad]; simp), if_neg (by simp [h2]), h1]
  have hle : ∀ (n : Int) (es : List Ed), (normalE n es).2.1.length ≤ es.length := fun n es => by
    unfold normalE
    repeat' split
    all_goals first | exact setE_le _ | simp
  generalize hHE : accE (fun a b => hasE N E (l.getD a 0) (l.getD b 0)) N N N = hE at *
  have hRh : rightE N hE = true := by
    have := @normalE_right l.length (mapE (posI l) E)
    rw [← e1, e2] at this
    exact this rfl
  have hlen1 : hE.length ≤ E.length := by
    have k1 := hle l.length (mapE (posI l) E)
    rw [← e1, e2] at k1
    have k2 := mapE_len (posI l) E
    simp only at k1
    omega
  have hhas : ∀ a b : Nat, a < N → b < N → a ≠ b → hasE N hE a b = hasE N E (l.getD a 0) (l.getD b 0) := by
    intro a b ha hb hab
    have key : ∀ i j : Nat, i < j → j < N → hasE N hE i j = hasE N E (l.getD i 0) (l.getD j 0) := by
      intro i j hij hj
      rw [Bool.eq_iff_iff, hasE_iff hRh, ← hHE, accE_mem, accE_mem]
      constructor
      · rintro (⟨i', j', k1, k2, k3, k4⟩ | ⟨i', j', k1, k2, k3, k4⟩)
        · have p1 := congrArg Prod.fst k4
          have p2 := congrArg Prod.snd k4
          simp only at p1 p2
          have q1 : i = i' := by omega
          have q2 : j = j' := by omega
          subst q1; subst q2; exact k3
        · have p1 := congrArg Prod.fst k4
          have p2 := congrArg Prod.snd k4
          simp only at p1 p2
          omega
      · intro k
        exact .inl ⟨i, j, hij, hj, k, rfl⟩
    rcases Nat.lt_or_gt_of_ne hab with hlt | hlt
    · exact key a b hlt hb
    · rw [hasE_symm hRh, hasE_symm hR, key b a hlt ha]
  obtain ⟨b1, b2, b3⟩ := back_ord ⟨h1, h2, h3⟩
  have f1 : inducedE N hE (backL N l) = ((N : Int), accE (fun a b => hasE N hE ((backL N l).getD a 0) ((backL N l).getD b 0)) N N N, 0) := by
    rw [ind_same (by omega)]
    unfold refIndE
    rw [if_neg (by simp [hRh]), if_neg (by rw [b3]; simp), if_neg (by simp [b2]), b1]
  have f2 : inducedE N hE (backL N l) = normalE (backL N l).length (mapE (posI (backL N l)) hE) := by
    unfold inducedE
    rw [if_neg (by simp [hRh]), if_neg (by rw [b3]; simp), if_neg (by simp [b2])]
  have hbg : ∀ v : Nat, v < N → (backL N l).getD v 0 = (l.idxOf (v : Int) : Int) := fun v hv => by
    rw [List.getD_eq_getElem?_getD]; simp [backL, hv]
  have f3 : accE (fun a b => hasE N hE ((backL N l).getD a 0) ((backL N l).getD b 0)) N N N = E := by
    refine strict_eq _ _ (accE_strict _ _) (right_strict hR) fun x => ?_
    rw [accE_mem]
    have hv : ∀ i j : Nat, i < j → j < N → hasE N hE ((backL N l).getD i 0) ((backL N l).getD j 0) = hasE N E i j := by
      intro i j hij hj
      have hi : i < N := by omega
      obtain ⟨g1, g2⟩ := ord_get ⟨h1, h2, h3⟩ hi
      obtain ⟨g3, g4⟩ := ord_get ⟨h1, h2, h3⟩ hj
      rw [hbg i hi, hbg j hj, hhas _ _ g1 g3 (fun he => by rw [he, g4] at g2; omega), g2, g4]
    constructor
    · rintro ⟨i, j, k1, k2, k3, rfl⟩
      rw [hv i j k1 k2, hasE_iff hR] at k3
      rcases k3 with k3 | k3
      · exact k3
      · have := right_lt hR _ k3; simp only at this; omega
    · intro hx
      have := right_ends hR x hx
      refine ⟨x.1.toNat, x.2.toNat, by omega, by omega, ?_, Prod.ext (by simp only; omega) (by simp only; omega)⟩
      rw [hv _ _ (by omega) (by omega), hasE_iff hR]
      left
      have : (((x.1.toNat : Nat) : Int), ((x.2.toNat : Nat) : Int)) = x := Prod.ext (by simp only; omega) (by simp only; omega)
      rw [this]; exact hx
  rw [f3] at f1
  have hlen2 : E.length ≤ hE.length := by
    have k1 := hle (backL N l).length (mapE (posI (backL N l)) hE)
    rw [← f2, f1] at k1
    have k2 := mapE_len (posI (backL N l)) hE
    simp only at k1
    omega
  exact ⟨hE, e2, hRh, by omega, hhas, f1⟩
end Go.Ai.G
/- SubOrder, the walk. -/
namespace Go.Ai.G
open Go.Ai
set_option maxRecDepth 100000
set_option linter.unusedSimpArgs false
set_option linter.unusedVariables false
variable {A : AProg} {φ : Nat → Nat}
attribute [local simp ↓] getD_z getD_s hid_k hid_o hid_q hid_v PO_nil PO_none PO_grd PD_nil PD_none PD_grd PDO_N PDO_X PDO_call PDO_calli PDO_callv PStep_N PStep_X PStep_call PStep_calli PC_skip PC_lab
  PC_ret PC_exit PC_reg PC_draw PC_seq PC_block PC_loop PC_scope PC_cond thenC_norm thenC_ret thenC_exit blockC_norm blockC_ret blockC_exit loopC_norm loopC_ret loopC_exit endR_ret
  endR_norm
attribute [local simp] gz PDX_free PDX_eq PStep_callv resK_none resK_t resK_tt KNO_val KNO_new KNO_ite KNO_map KXO_some KXO_ite KVA_t KVA_f KG_skip KG_tt KG_ff KG_tf KG_ft KB_true KB_false KNOD_val
  KNOD_new KNOD_ite n_mv n_pick n_bin n_eqB n_eqN n_eqS n_un n_conv n_fadd n_faddV n_fld1 n_fldN n_idx n_idxA n_idxV n_idxAV n_ext n_lenS n_lenS0 n_lenV n_lenT n_lenA n_min n_max
  n_build n_mkfn n_slc n_slc0 n_slcV n_slcA n_load1 n_loadN n_load1V n_loadNV n_alloc n_box n_bsl n_mksl n_nilcP n_nilcV n_nilcI n_nilcF x_store x_clear0 x_clear b_add b_sub b_mul
  b_eql b_neq b_lss b_leq b_gtr b_geq b_and16 unV ntouch gather hide unhide evalOpd applyOuts int_bne int_beq ite_bool ite_int one_bool cells_bool one_int cells_int one_str cells_str
  one_nilp cells_nilp one_ptr cells_ptr one_nils cells_nils one_sl cells_sl one_nilf cells_nilf one_fn cells_fn one_nili cells_nili one_mp cells_mp one_nilm cells_nilm one_iface
  cells_iface one_vs cells_vs one_vp cells_vp cells_agg Nat.testBit setAt_1 setAt_2 closeds_nil closeds_cons closed_bool closed_int closed_str closed_nilp closed_nils closed_nilm
  closed_nilf closed_nili closed_agg closed_tup closed_vs closed_vp closed_iface closed_fn closeds_cI closeds_cE viewA_closed viewR_closed AV.scal AV.scal0 fillA repA part_bool
  part_int part_str part_nilp part_ptr part_nils part_sl part_nilm part_mp part_nilf part_fn part_nili part_iface part_agg part_vs part_vp viewA_sl1 vaSl_cells wrap_0 wrap_1 wrap_2
  wrap_m1 set_last get_last
theorem er49_0 (φ : Nat → Nat) : r49_0 φ = [
  ⟨0, .N .box, [.n 0], none, 0⟩,
  ⟨1, .N .mv, [.c (.bool false)], none, 0⟩] := Eq.trans rfl rfl
theorem er49_1 (φ : Nat → Nat) : r49_1 φ = [
  ⟨0, .calli true (φ 38), [], none, 0⟩,
  ⟨1, .N .mv, [.l 0], none, 0⟩] := Eq.trans rfl rfl
theorem er49_2 (φ : Nat → Nat) : r49_2 φ = [
  ⟨0, .N (.loadN 2), [.n 2], none, 0⟩,
  ⟨1, .calli false (φ 39), [.l 0, .c (.int .i64 30)], none, 0⟩,
  ⟨2, .N (.alloc [.int .i64 0, .nils]), [], none, 0⟩,
  ⟨3, .X (.store 2), [.l 0, .l 1], none, 0⟩] := Eq.trans rfl rfl
theorem er49_3 (φ : Nat → Nat) : r49_3 φ = [
  ⟨0, .N (.bsl [.int .i64 0] 0 1 []), [], none, 0⟩,
  ⟨1, .N .mv, [.l 0], none, 0⟩] := Eq.trans rfl rfl
theorem er49_4 (φ : Nat → Nat) : r49_4 φ = [
  ⟨0, .N .mv, [.c (.int .i64 0)], none, 0⟩] := Eq.trans rfl rfl
theorem er49_5 (φ : Nat → Nat) : r49_5 φ = [
  ⟨0, .N .mv, [.n 7], none, 0⟩,
  ⟨1, .N (.fadd 0), [.n 5], none, 0⟩,
  ⟨2, .N .load1, [.l 0], none, 0⟩,
  ⟨3, .N (.bin .lss), [.l 2, .l 0], none, 0⟩] := Eq.trans rfl rfl
theorem er49_6 (φ : Nat → Nat) : r49_6 φ = [
  ⟨0, .N .mv, [.c (.int .i64 0)], none, 0⟩] := Eq.trans rfl rfl
theorem er49_7 (φ : Nat → Nat) : r49_7 φ = [
  ⟨0, .N .mv, [.n 7], none, 0⟩,
  ⟨1, .N .mv, [.n 1], none, 0⟩,
  ⟨2, .N .lenS, [.l 0], none, 0⟩,
  ⟨3, .N (.bin .lss), [.l 2, .l 0], none, 0⟩] := Eq.trans rfl rfl
theorem er49_8 (φ : Nat → Nat) : r49_8 φ = [
  ⟨0, .N .mv, [.n 1], none, 0⟩,
  ⟨1, .N .mv, [.n 7], none, 0⟩,
  ⟨2, .N (.idx 1), [.l 1, .l 0], none, 0⟩,
  ⟨3, .N .load1, [.l 0], none, 0⟩,
  ⟨4, .N (.bin .and), [.l 0, .c (.int .i64 65535)], none, 0⟩,
  ⟨5, .N .mv, [.n 7], none, 0⟩,
  ⟨6, .N (.bin .add), [.l 0, .c (.int .i64 1)], none, 0⟩,
  ⟨7, .N (.bin .rem), [.l 2, .l 0], none, 0⟩,
  ⟨8, .N .mv, [.l 0], none, 0⟩] := Eq.trans rfl rfl
theorem er49_9 (φ : Nat → Nat) : r49_9 φ = [
  ⟨0, .N (.bsl [.int .i64 0] 0 1 []), [], none, 0⟩,
  ⟨1, .N .mv, [.n 6], none, 0⟩,
  ⟨2, .N .mv, [.n 8], none, 0⟩,
  ⟨3, .N (.slc 1 false true false), [.l 1, .l 0], none, 6⟩,
  ⟨5, .N .mv, [.n 7], none, 0⟩,
  ⟨6, .N (.bsl [.int .i64 0] 1 1 [(0, 1)]), [.l 0], none, 16⟩,
  ⟨8, .N .mv, [.n 6], none, 0⟩,
  ⟨9, .N .mv, [.n 8], none, 0⟩,
  ⟨10, .N (.slc 1 true false false), [.l 1, .l 0], none, 192⟩,
  ⟨4, .X (.app 1 8), [.l 8, .l 5], none, 15⟩,
  ⟨7, .X (.app 1 8), [.l 0, .l 4], none, 575⟩,
  ⟨11, .X (.app 1 8), [.l 0, .l 2], none, 2047⟩,
  ⟨12, .N .mv, [.l 0], none, 4095⟩] := Eq.trans rfl rfl
theorem er49_10 (φ : Nat → Nat) : r49_10 φ = [
  ⟨0, .N .mv, [.n 7], none, 0⟩,
  ⟨1, .N (.bin .add), [.l 0, .c (.int .i64 1)], none, 0⟩,
  ⟨2, .N .mv, [.l 0], none, 0⟩] := Eq.trans rfl rfl
theorem er49_12 (φ : Nat → Nat) : r49_12 φ = [
  ⟨0, .N (.fadd 0), [.n 5], none, 0⟩,
  ⟨1, .N .load1, [.l 0], none, 0⟩,
  ⟨2, .N (.mksl [.int .i64 0] 1 8), [.l 0, .l 0], none, 0⟩,
  ⟨3, .N .mv, [.l 0], none, 0⟩] := Eq.trans rfl rfl
theorem er49_13 (φ : Nat → Nat) : r49_13 φ = [
  ⟨0, .N .mv, [.c (.int .i64 0)], none, 0⟩] := Eq.trans rfl rfl
theorem er49_14 (φ : Nat → Nat) : r49_14 φ = [
  ⟨0, .N .mv, [.n 10], none, 0⟩,
  ⟨1, .N .mv, [.n 6], none, 0⟩,
  ⟨2, .N .lenS, [.l 0], none, 0⟩,
  ⟨3, .N (.bin .lss), [.l 2, .l 0], none, 0⟩] := Eq.trans rfl rfl
theorem er49_15 (φ : Nat → Nat) : r49_15 φ = [
  ⟨0, .N .mv, [.n 9], none, 0⟩,
  ⟨1, .N .mv, [.n 6], none, 0⟩,
  ⟨2, .N .mv, [.n 10], none, 0⟩,
  ⟨3, .N (.idx 1), [.l 1, .l 0], none, 0⟩,
  ⟨4, .N .load1, [.l 0], none, 0⟩,
  ⟨5, .N .mv, [.n 10], none, 0⟩,
  ⟨6, .N (.idx 1), [.l 5, .l 1], none, 0⟩,
  ⟨7, .X (.store 1), [.l 0, .l 1], none, 0⟩] := Eq.trans rfl rfl
theorem er49_16 (φ : Nat → Nat) : r49_16 φ = [
  ⟨0, .N .mv, [.n 10], none, 0⟩,
  ⟨1, .N (.bin .add), [.l 0, .c (.int .i64 1)], none, 0⟩,
  ⟨2, .N .mv, [.l 0], none, 0⟩] := Eq.trans rfl rfl
theorem er49_18 (φ : Nat → Nat) : r49_18 φ = [
  ⟨0, .N (.loadN 2), [.n 5], none, 0⟩,
  ⟨1, .N .mv, [.n 6], none, 0⟩,
  ⟨2, .calli false (φ 40), [.l 1, .l 0], none, 0⟩,
  ⟨3, .N .mv, [.l 0], none, 0⟩,
  ⟨4, .N (.ext 0), [.l 0], none, 0⟩,
  ⟨5, .N (.ext 1), [.l 1], none, 0⟩,
  ⟨6, .N (.alloc [.int .i64 0, .nils]), [], none, 0⟩,
  ⟨7, .X (.store 2), [.l 0, .l 2], none, 0⟩,
  ⟨8, .N .mv, [.l 2], none, 0⟩] := Eq.trans rfl rfl
theorem er49_19 (φ : Nat → Nat) : r49_19 φ = [
  ⟨0, .N .mv, [.n 12], none, 0⟩,
  ⟨1, .N (.bin .neq), [.l 0, .c (.int .i64 0)], none, 0⟩,
  ⟨2, .N .mv, [.l 0], none, 0⟩,
  ⟨3, .N (.fadd 0), [.n 11], some (.l 0, false), 0⟩,
  ⟨4, .N .load1, [.l 0], some (.l 1, false), 0⟩,
  ⟨5, .N (.fadd 0), [.n 5], some (.l 2, false), 0⟩,
  ⟨6, .N .load1, [.l 0], some (.l 3, false), 0⟩,
  ⟨7, .N (.bin .neq), [.l 2, .l 0], some (.l 4, false), 0⟩,
  ⟨8, .N .pick, [.l 5, .c (.bool true), .l 0], none, 0⟩,
  ⟨9, .N .mv, [.l 0], none, 0⟩,
  ⟨10, .N (.fadd 1), [.n 11], some (.l 0, false), 0⟩,
  ⟨11, .N .load1, [.l 0], some (.l 1, false), 0⟩,
  ⟨12, .N .lenS, [.l 0], some (.l 2, false), 0⟩,
  ⟨13, .N (.fadd 1), [.n 5], some (.l 3, false), 0⟩,
  ⟨14, .N .load1, [.l 0], some (.l 4, false), 0⟩,
  ⟨15, .N .lenS, [.l 0], some (.l 5, false), 0⟩,
  ⟨16, .N (.bin .neq), [.l 3, .l 0], some (.l 6, false), 0⟩,
  ⟨17, .N .pick, [.l 7, .c (.bool true), .l 0], none, 0⟩] := Eq.trans rfl rfl
theorem er49_20 (φ : Nat → Nat) : r49_20 φ = [
  ⟨0, .N .mv, [.c (.bool false)], none, 0⟩] := Eq.trans rfl rfl
theorem er49_21 (φ : Nat → Nat) : r49_21 φ = [
  ⟨0, .N .mv, [.c (.int .i64 0)], none, 0⟩] := Eq.trans rfl rfl
theorem er49_22 (φ : Nat → Nat) : r49_22 φ = [
  ⟨0, .N .mv, [.n 13], none, 0⟩,
  ⟨1, .N (.fadd 0), [.n 5], none, 0⟩,
  ⟨2, .N .load1, [.l 0], none, 0⟩,
  ⟨3, .N (.bin .lss), [.l 2, .l 0], none, 0⟩] := Eq.trans rfl rfl
theorem er49_23 (φ : Nat → Nat) : r49_23 φ = [
  ⟨0, .N .mv, [.c (.int .i64 0)], none, 0⟩] := Eq.trans rfl rfl
theorem er49_24 (φ : Nat → Nat) : r49_24 φ = [
  ⟨0, .N .mv, [.n 14], none, 0⟩,
  ⟨1, .N .mv, [.n 13], none, 0⟩,
  ⟨2, .N (.bin .lss), [.l 1, .l 0], none, 0⟩] := Eq.trans rfl rfl
theorem er49_25 (φ : Nat → Nat) : r49_25 φ = [
  ⟨0, .N (.loadN 2), [.n 11], none, 0⟩,
  ⟨1, .N .mv, [.n 13], none, 0⟩,
  ⟨2, .N .mv, [.n 14], none, 0⟩,
  ⟨4, .N (.loadN 2), [.n 5], none, 0⟩,
  ⟨5, .N .mv, [.n 6], none, 0⟩,
  ⟨6, .N .mv, [.n 13], none, 0⟩,
  ⟨7, .N (.idx 1), [.l 1, .l 0], none, 48⟩,
  ⟨8, .N .load1, [.l 0], none, 112⟩,
  ⟨9, .N .mv, [.n 6], none, 0⟩,
  ⟨10, .N .mv, [.n 14], none, 0⟩,
  ⟨11, .N (.idx 1), [.l 1, .l 0], none, 768⟩,
  ⟨12, .N .load1, [.l 0], none, 1792⟩,
  ⟨3, .calli true (φ 7), [.l 11, .l 10, .l 9], none, 7⟩,
  ⟨13, .calli true (φ 7), [.l 9, .l 5, .l 1], none, 8191⟩,
  ⟨14, .N (.eqB true), [.l 1, .l 0], none, 16383⟩] := Eq.trans rfl rfl
theorem er49_26 (φ : Nat → Nat) : r49_26 φ = [
  ⟨0, .N .mv, [.c (.bool false)], none, 0⟩] := Eq.trans rfl rfl
theorem er49_27 (φ : Nat → Nat) : r49_27 φ = [
  ⟨0, .N .mv, [.n 14], none, 0⟩,
  ⟨1, .N (.bin .add), [.l 0, .c (.int .i64 1)], none, 0⟩,
  ⟨2, .N .mv, [.l 0], none, 0⟩] := Eq.trans rfl rfl
theorem er49_29 (φ : Nat → Nat) : r49_29 φ = [
  ⟨0, .N .mv, [.n 13], none, 0⟩,
  ⟨1, .N (.bin .add), [.l 0, .c (.int .i64 1)], none, 0⟩,
  ⟨2, .N .mv, [.l 0], none, 0⟩] := Eq.trans rfl rfl
theorem er49_31 (φ : Nat → Nat) : r49_31 φ = [
  ⟨0, .N (.loadN 2), [.n 11], none, 0⟩,
  ⟨1, .N .mv, [.n 9], none, 0⟩,
  ⟨2, .calli false (φ 40), [.l 1, .l 0], none, 0⟩,
  ⟨3, .N .mv, [.l 0], none, 0⟩,
  ⟨4, .N (.ext 0), [.l 0], none, 0⟩,
  ⟨5, .N (.ext 1), [.l 1], none, 0⟩,
  ⟨6, .N (.alloc [.int .i64 0, .nils]), [], none, 0⟩,
  ⟨7, .X (.store 2), [.l 0, .l 2], none, 0⟩,
  ⟨8, .N .mv, [.l 2], none, 0⟩] := Eq.trans rfl rfl
theorem er49_32 (φ : Nat → Nat) : r49_32 φ = [
  ⟨0, .N .mv, [.n 4], none, 0⟩,
  ⟨1, .N .mv, [.l 0], none, 0⟩,
  ⟨2, .N .mv, [.n 16], some (.l 0, true), 0⟩,
  ⟨3, .N (.bin .eql), [.l 0, .c (.int .i64 0)], some (.l 1, true), 0⟩,
  ⟨4, .N .pick, [.l 2, .l 0, .c (.bool false)], none, 0⟩,
  ⟨5, .N .mv, [.l 0], none, 0⟩,
  ⟨6, .N (.loadN 2), [.n 15], some (.l 0, true), 0⟩,
  ⟨7, .N (.loadN 2), [.n 5], some (.l 1, true), 0⟩,
  ⟨8, .calli true (φ 3), [.l 1, .l 0], some (.l 2, true), 0⟩,
  ⟨9, .N .pick, [.l 3, .l 0, .c (.bool false)], none, 0⟩,
  ⟨10, .N .mv, [.l 0], none, 0⟩] := Eq.trans rfl rfl
theorem own_cut {P : Nat} {H : Heap} {v : AV} {xs : List Int} (h : OwnI false P H v xs) {p : Nat} (hp : p ≤ xs.length) :
    ∃ u w, (∀ (k : IntKind) rd, nstep (.slc 1 false true false) [v, .int k (p : Int)] rd = some (.val u)) ∧ (∀ (k : IntKind) rd, nstep (.slc 1 true false false) [v, .int k (p : Int)] rd = some (.val w)) ∧
      ∀ H' : Heap, (∀ b, blkOf v = some b → H'[b]? = H[b]?) → srcCells H' 1 u = some (p, cI (xs.take p)) ∧ srcCells H' 1 w = some (xs.length - p, cI (xs.drop p)) := by
  have hl : (cI xs).length = xs.length := by simp [cI]
  have e1 : cI (xs.take p) = (cI xs).take p := by simp [cI]
  have e2 : cI (xs.drop p) = (cI xs).drop p := by simp [cI]
  rcases h with ⟨h0, h1, h⟩ | ⟨h0, b, g, ex, rfl, h1, h2, hb⟩
  · obtain ⟨b, g, o, rfl⟩ := h
    have hx : xs = [] := List.length_eq_zero_iff.1 h0
    subst hx
    have : p = 0 := by simpa using hp
    subst this
    refine ⟨.sl b g o 0 1 0 true, .sl b g o 0 1 0 true, fun k rd => ?_, fun k rd => ?_, fun H' _ => ⟨?_, ?_⟩⟩
    · rw [n_slc]; simp [bounds3, intArg]
    · rw [n_slc]; simp [bounds3, intArg]
    · simp [srcCells, cI]
    · simp [srcCells, cI]
  · have b1 : ∀ k : IntKind, bounds3 xs.length xs.length false true false [.int k (p : Int)] = some (0, p, xs.length) := fun k => by simp [bounds3, intArg, hp]
    have b2 : ∀ k : IntKind, bounds3 xs.length xs.length true false false [.int k (p : Int)] = some (p, xs.length, xs.length) := fun k => by simp [bounds3, intArg, hp]
    refine ⟨.sl b g 0 p 1 xs.length ex, .sl b g p (xs.length - p) 1 (xs.length - p) ex, fun k rd => ?_, fun k rd => ?_, fun H' hH => ?_⟩
    · rw [n_slc, b1]; simp
    · rw [n_slc, b2]; simp
    have hb' : H'[b]? = some (.cells g false (cI xs)) := by rw [hH b (by simp only [blkOf]; rw [if_neg (by omega)])]; exact hb
    constructor
    · by_cases hp0 : p = 0
      · subst hp0; simp [srcCells, cI]
      · simp [srcCells, rdSl, hb', hp0, e1, hl, hp]
    · by_cases hp0 : xs.length = p
      · subst hp0; simp [srcCells, cI]
      · have : ¬ xs.length - p = 0 := by omega
        simp only [srcCells, rdSl, hb', if_true, this, if_false, Nat.zero_add, Nat.mul_one]
        rw [if_pos ⟨trivial, by rw [hl]; omega⟩, e2]
        simp only [Option.map_some]
        rw [List.take_of_length_le (by simp [hl])]
theorem ins_own {P : Nat} {H : Heap} {v u w : AV} {xs : List Int} (h : OwnI false P H v xs) (hP : P ≤ H.length) {p : Nat} (hp : p ≤ xs.length) (x : Int) (hxl : xs.length ≤ 100000)
    (hs : ∀ H' : Heap, (∀ b, blkOf v = some b → H'[b]? = H[b]?) → srcCells H' 1 u = some (p, cI (xs.take p)) ∧ srcCells H' 1 w = some (xs.length - p, cI (xs.drop p))) :
    ∃ r4 H1 r7 H2 r11 H3, xstep (.app 1 8) [.sl H.length 0 0 0 1 0 true, u] (H ++ [Ob.cells 0 false [], Ob.dead]) = some (r4, H1) ∧
      xstep (.app 1 8) [r4, .sl (H.length + 1) 0 0 1 1 1 true] (H1.set (H.length + 1) (.cells 0 false [.int .i64 x])) = some (r7, H2) ∧
      xstep (.app 1 8) [r7, w] H2 = some (r11, H3) ∧ OwnI false P H3 r11 (xs.take p ++ [x] ++ xs.drop p) ∧ (∀ b, b < H.length → H3[b]? = H[b]?) ∧ H.length ≤ H3.length := by
  have hvb : ∀ b, blkOf v = some b → b < H.length := fun b hb => (Own.blk h hb).2
  have hlt : (cI (xs.take p)).length = p := by simp [cI]; omega
  have hld : (cI (xs.drop p)).length = xs.length - p := by simp [cI]
  have hone : ∀ l : List Int, (cI l).all (·.one) = true := fun l => by simp [cI]
  generalize hHH : (H ++ [Ob.cells 0 false [], Ob.dead] : Heap) = D
  have dl : D.length = H.length + 2 := by rw [← hHH]; simp
  have dg : ∀ b, b < H.length → D[b]? = H[b]? := fun b hb => by
    rw [← hHH, List.getElem?_append_left hb]
  have h0 : Own false H.length D (.sl H.length 0 0 0 1 0 true) 1 0 [] := .inl ⟨rfl, rfl, H.length, 0, 0, rfl⟩
  obtain ⟨r4, H1, x1, x2, x3, x4, x5⟩ := Own.app (bytes := 8) h0 (hs D fun b hb => dg b (hvb b hb)).1 (by rw [hlt, Nat.mul_one]) (hone _) (by omega) (by omega)
  have k1 : ∀ b, b < D.length → H1[b]? = D[b]? := fun b hb => x3 b hb (by simp [blkOf])
  have r4b : ∀ b, blkOf r4 = some b → H.length + 2 ≤ b := fun b hb => by
    rcases x5 b hb with h' | h'
    · simp [blkOf] at h'
    · omega
  generalize hH1' : H1.set (H.length + 1) (.cells 0 false [.int .i64 x]) = H1'
  have l1 : H1'.length = H1.length := by rw [← hH1']; simp
  have own4 : Own false H.length H1' r4 1 (0 + p) ([] ++ cI (xs.take p)) := x2.keep fun b hb hbe => by
    rw [← hH1', List.getElem?_set_ne (by have := r4b b hbe; omega)]
  have g1 : H1'[H.length + 1]? = some (.cells 0 false [.int .i64 x]) := by
    rw [← hH1']; exact List.getElem?_set_self (by omega)
  have src1 : srcCells H1' 1 (.sl (H.length + 1) 0 0 1 1 1 true) = some (1, [.int .i64 x]) := by
    simp [srcCells, rdSl, g1]
  obtain ⟨r7, H2, y1, y2, y3, y4, y5⟩ := Own.app (bytes := 8) own4 src1 rfl rfl (by omega) (by omega)
  have r7b : ∀ b, blkOf r7 = some b → H.length + 2 ≤ b := fun b hb => by
    rcases y5 b hb with h' | h'
    · exact r4b b h'
    · omega
  have k2 : ∀ b, b < H.length → H2[b]? = H[b]? := fun b hb => by
    rw [y3 b (by omega) (fun h' => by have := r4b b h'; omega), ← hH1', List.getElem?_set_ne (by omega), k1 b (by omega), dg b hb]
  obtain ⟨r11, H3, z1, z2, z3, z4, z5⟩ := Own.app (bytes := 8) y2 (hs H2 fun b hb => k2 b (hvb b hb)).2 (by rw [hld, Nat.mul_one]) (hone _) (by omega) (by omega)
  refine ⟨r4, H1, r7, H2, r11, H3, x1, by rw [hH1']; exact y1, z1, ?_, fun b hb => ?_, by omega⟩
  · have e1 : (xs.take p ++ [x] ++ xs.drop p).length = 0 + p + 1 + (xs.length - p) := by simp; omega
    have e2 : cI (xs.take p ++ [x] ++ xs.drop p) = [] ++ cI (xs.take p) ++ [.int .i64 x] ++ cI (xs.drop p) := by simp [cI]
    unfold OwnI
    rw [e1, e2]
    exact z2.weak hP
  · rw [z3 b (by omega) (fun h' => by have := r7b b h'; omega), k2 b hb]
structure SO (A : AProg) (φ : Nat → Nat) : Prop where
  s : SC A φ
  has : ∀ n a b v es, IsE v es → PVal A (φ 7) [gV n v, .int .i64 a, .int .i64 b] (.bool (hasE n es a b))
set_option maxHeartbeats 4000000 in
theorem w_SubOrder (h : Has A (φ 49) (f49 φ)) (hS : PVal A (φ 38) [] (.bool true)) (g : SO A φ) (n : Int) (v : AV) (es : List Ed) (hv : IsE v es) (bv : AV) (bs : List Int) (hb : IsI bv bs) :
    PVal A (φ 49) [gV n v, bv] (.bool true) := by
  have hsh := hS.eq
  have hone := hv.one
  have hcl := hv.closed
  have hblen := hb.len
  have c0 := (g.s.of n 30 v es hv (by omega) (by omega)).eq
  have hR := any_right n es (most := 30) (by omega) (by omega)
  have hEl := anyE_len n 30 es
  have hNr := anyN_range (n := n) (most := 30) (by omega)
  generalize anyN n 30 = N at *
  generalize anyE n 30 es = E at *
  obtain ⟨N, rfl⟩ : ∃ M : Nat, N = (M : Int) := ⟨N.toNat, by omega⟩
  have iE := isE_r E
  have hElen := iE.len
  generalize hUe : rE E = U at *
  refine pval_has h rfl ?_
  simp only [l49_11, l49_17, l49_28, l49_30, b49, f49]
  simp [-List.getD_eq_getElem?_getD, -Int.ofNat_toNat, -getElem?_pos, er49_0, er49_1, er49_2, er49_3, er49_4, er49_5, er49_6, er49_7, er49_8, er49_9, er49_10, er49_12, er49_13, er49_14, er49_15, er49_16, er49_18, er49_19, er49_20, er49_21, er49_22, er49_23, er49_24, er49_25, er49_26, er49_27, er49_29, er49_31, er49_32, hsh, hone, hcl, c0, iE.closed, iE.one, iE.cells]
  refine pc_loopI (fun m st => ∃ (k : Nat) (l : List Int) (lv a8 p17 p18 : AV) (H : Heap), k + m = N ∧ OrdL k l ∧ OwnI false 2 H lv l ∧ 3 ≤ H.length ∧ H[0]? = some (.cells 0 false [.int .i64 n, v]) ∧ H[1]? = some (.cells 0 false [.int .i64 N, U]) ∧
    st = ([gV n v, bv, .ptr 0 0 0, .bool false, .bool true, .ptr 1 0 0, lv, .int .i64 k, a8, .un, .un, .un, .un, .un, .un, .un, .un, p17, p18, .un, .un, .un, .un, .un], H)) N
    ⟨0, [], _, _, _, _, _, by simp, ord_nil, own_empty _ _ _ _ _ _, by simp, rfl, rfl, rfl⟩ ?_
  rintro m st ⟨k, l, lv, a8, p17, p18, H, hk, hO, ho, hL, e0, e1, rfl⟩
  by_cases hlt : k < N
  · have hlt' : (k : Int) < N := by omega
    have hkw := wrap1 hlt (by omega)
    have hat : ∃ p : Nat, p ≤ k ∧ ∀ (K : AV → Heap → Prop), True := ⟨0, by omega, fun _ => trivial⟩
    by_cases hkb : k < bs.length
    · have hkb' : (k : Int) < bs.length := by omega
      obtain ⟨i1, z1⟩ := hb.at hkb
      have r1 : binV .rem (.int .i64 (bs[k] % 65536)) (.int .i64 ((k : Int) + 1)) = some (.int .i64 ((bs[k] % 65536).tmod ((k : Int) + 1))) := b_rem _ _ _ (by omega)
      have rk : 0 ≤ (bs[k] % 65536).tmod ((k : Int) + 1) ∧ (bs[k] % 65536).tmod ((k : Int) + 1) < (k : Int) + 1 := by
        rw [Int.tmod_eq_emod_of_nonneg (Int.emod_nonneg _ (by decide))]
        exact ⟨Int.emod_nonneg _ (by omega), Int.emod_lt_of_pos _ (by omega)⟩
      generalize (bs[k] % 65536).tmod ((k : Int) + 1) = p0 at *
      obtain ⟨p, rfl⟩ : ∃ p : Nat, p0 = (p : Int) := ⟨p0.toNat, by omega⟩
      obtain ⟨u, w, s1, s2, s3⟩ := own_cut ho (p := p) (by rw [hO.1]; omega)
      obtain ⟨r4, H1, r7, H2, r11, H3, y1, y2, y3, y4, y5, y6⟩ := ins_own ho (by omega) (p := p) (by rw [hO.1]; omega) (k : Int) (by rw [hO.1]; omega) s3
      have hgd : (H ++ [Ob.cells 0 false [], Ob.cells 0 false [.int .i64 (k : Int)]] : Heap).getD (H.length + 1) .dead = .cells 0 false [.int .i64 (k : Int)] := by
        rw [List.getD_eq_getElem?_getD, List.getElem?_append_right (by omega)]
        simp
      simp [-List.getD_eq_getElem?_getD, -Int.ofNat_toNat, -getElem?_pos, er49_0, er49_1, er49_2, er49_3, er49_4, er49_5, er49_6, er49_7, er49_8, er49_9, er49_10, er49_12, er49_13, er49_14, er49_15, er49_16, er49_18, er49_19, er49_20, er49_21, er49_22, er49_23, er49_24, er49_25, er49_26, er49_27, er49_29, er49_31, er49_32, e1, hlt', hlt, hblen, hkb', hkb, i1, z1, hkw, r1, s1, s2, PDX_eq, y1, y2, y3, hgd]
      exact next_mk (m - 1) (by omega) ⟨k + 1, _, r11, _, _, _, H3, by omega, ord_ins hO p, y4, by omega, by rw [y5 0 (by omega)]; exact e0, by rw [y5 1 (by omega)]; exact e1, rfl⟩
    · have hkb' : ¬ (k : Int) < bs.length := by omega
      obtain ⟨u, w, s1, s2, s3⟩ := own_cut ho (p := 0) (by omega)
      obtain ⟨r4, H1, r7, H2, r11, H3, y1, y2, y3, y4, y5, y6⟩ := ins_own ho (by omega) (p := 0) (by omega) (k : Int) (by rw [hO.1]; omega) s3
      have hgd : (H ++ [Ob.cells 0 false [], Ob.cells 0 false [.int .i64 (k : Int)]] : Heap).getD (H.length + 1) .dead = .cells 0 false [.int .i64 (k : Int)] := by
        rw [List.getD_eq_getElem?_getD, List.getElem?_append_right (by omega)]
        simp
      have s1' : ∀ kk rd, nstep (.slc 1 false true false) [lv, .int kk 0] rd = some (.val u) := s1
      have s2' : ∀ kk rd, nstep (.slc 1 true false false) [lv, .int kk 0] rd = some (.val w) := s2
      simp [-List.getD_eq_getElem?_getD, -Int.ofNat_toNat, -getElem?_pos, er49_0, er49_1, er49_2, er49_3, er49_4, er49_5, er49_6, er49_7, er49_8, er49_9, er49_10, er49_12, er49_13, er49_14, er49_15, er49_16, er49_18, er49_19, er49_20, er49_21, er49_22, er49_23, er49_24, er49_25, er49_26, er49_27, er49_29, er49_31, er49_32, e1, hlt', hlt, hblen, hkb', hkb, hkw, s1', s2', PDX_eq, y1, y2, y3, hgd]
      exact next_mk (m - 1) (by omega) ⟨k + 1, _, r11, _, _, _, H3, by omega, ord_ins hO 0, y4, by omega, by rw [y5 0 (by omega)]; exact e0, by rw [y5 1 (by omega)]; exact e1, rfl⟩
  · have hlt' : ¬ (k : Int) < N := by omega
    have hke : k = N := by omega
    subst hke
    have hLl := Own.len ho
    rw [hO.1] at hLl
    have hcI0 : repA [.int .i64 0] k = cI (List.replicate k 0) := by rw [repA_repl]; simp [cI]
    simp [-List.getD_eq_getElem?_getD, -Int.ofNat_toNat, -getElem?_pos, er49_0, er49_1, er49_2, er49_3, er49_4, er49_5, er49_6, er49_7, er49_8, er49_9, er49_10, er49_12, er49_13, er49_14, er49_15, er49_16, er49_18, er49_19, er49_20, er49_21, er49_22, er49_23, er49_24, er49_25, er49_26, er49_27, er49_29, er49_31, er49_32, e1, hlt', get_at, get_at0, set_at, set_at0]
    refine ⟨by omega, ?_⟩
    rw [hcI0]
    refine pc_loopI (fun m st => ∃ (i : Nat) (bk : List Int) (p19 : AV), i + m = k ∧ bk.length = k ∧ (∀ j x : Nat, j < i → l[j]? = some (x : Int) → bk[x]? = some (j : Int)) ∧
      st = ([gV n v, bv, .ptr 0 0 0, .bool false, .bool true, .ptr 1 0 0, lv, .int .i64 k, a8, .sl H.length 0 0 k 1 k true, .int .i64 i, .un, .un, .un, .un, .un, .un, .bool false, p18, p19, .un, .un, .un, .un], H ++ [.cells 0 false (cI bk)])) k
      ⟨0, List.replicate k 0, _, by simp, by simp, fun j x hj => by omega, rfl⟩ ?_
    rintro m st ⟨i, bk, p19, hi, hbl, hbk, rfl⟩
    by_cases hik : i < k
    · have hik' : (i : Int) < k := by omega
      have hiw := wrap1 hik (by omega)
      have hil : i < l.length := by rw [hO.1]; exact hik
      obtain ⟨b0, g0, oi, oc, ob, oP, _⟩ := Own.at (ho.more [.cells 0 false (cI bk)]) hil
      have oc2 := cI_get hil
      have hr := (hO.2.2 l[i]).1 (List.getElem_mem hil)
      obtain ⟨x, hx⟩ : ∃ x : Nat, l[i] = (x : Int) := ⟨l[i].toNat, by omega⟩
      rw [hx] at oc2
      have hxk : x < k := by omega
      have hxk' : (x : Int) < k := by omega
      have hclen : (cI bk).length = k := by simp [cI, hbl]
      have s1 := setAt_one (c := cI bk) (o := x) (.int .i64 (i : Int)) (by omega)
      have hset : (cI bk).set x (.int .i64 (i : Int)) = cI (bk.set x (i : Int)) := by simp [cI, List.map_set]
      simp [-List.getD_eq_getElem?_getD, -Int.ofNat_toNat, -getElem?_pos, er49_0, er49_1, er49_2, er49_3, er49_4, er49_5, er49_6, er49_7, er49_8, er49_9, er49_10, er49_12, er49_13, er49_14, er49_15, er49_16, er49_18, er49_19, er49_20, er49_21, er49_22, er49_23, er49_24, er49_25, er49_26, er49_27, er49_29, er49_31, er49_32, e1, hLl, hik', hik, hiw, oi, oc, oc2, hxk, hxk', get_at, get_at0, set_at, set_at0, hclen, s1, hset]
      refine ⟨by omega, next_mk (m - 1) (by omega) ⟨i + 1, bk.set x (i : Int), _, by omega, by simp [hbl], fun j y hj hy => ?_, rfl⟩⟩
      by_cases hji : j = i
      · subst hji
        rw [List.getElem?_eq_getElem hil, hx] at hy
        have : x = y := by simp at hy; omega
        subst this
        rw [List.getElem?_set_self (by omega)]
      · have hne : x ≠ y := by
          rintro rfl
          have hjl : j < l.length := by omega
          rw [List.getElem?_eq_getElem hjl] at hy
          have hp := List.pairwise_iff_getElem.1 hO.2.1 j i hjl hil (by omega)
          apply hp
          rw [hx]; simpa using hy
        rw [List.getElem?_set_ne hne]
        exact hbk j y (by omega) hy
    · have hik' : ¬ (i : Int) < k := by omega
      have hie : i = k := by omega
      have hbke : bk = backL k l := by
        apply List.ext_getElem?
        intro y
        by_cases hy : y < k
        · obtain ⟨q1, q2⟩ := ord_get hO hy
          have : l[l.idxOf (y : Int)]? = some (y : Int) := by
            rw [List.getElem?_eq_getElem (by rw [hO.1]; exact q1)]
            simp
          rw [hbk _ y (by omega) this]
          simp [backL, hy]
        · rw [List.getElem?_eq_none (by omega), List.getElem?_eq_none (by simp [backL]; omega)]
      subst hbke
      obtain ⟨hE, o1, o2, o3, o4, o5⟩ := order_law hR (by omega) hO
      have hvw := Own.vw (ho.more [.cells 0 false (cI (backL k l))])
      have hgc : (gV (k : Int) U).closed = true := by simp [iE.closed]
      have va := hvw.r2 (closeds_cI l) (gV (k : Int) U) hgc
      have fv := hvw.frz.1
      have hlb : ∀ b, blkOf lv = some b → 2 ≤ b ∧ b < H.length := fun b hb => Own.blk ho hb
      have hF : ∀ b, blkOf lv ≠ some b → (frzOf (H ++ [.cells 0 false (cI (backL k l))]) lv)[b]? = (H ++ [.cells 0 false (cI (backL k l))])[b]? := fun b hb => frzOf_get _ _ hb
      have f1 : (frzOf (H ++ [.cells 0 false (cI (backL k l))]) lv)[1]? = some (.cells 0 false [.int .i64 k, U]) := by
        rw [hF 1 (fun h => by have := hlb _ h; omega), List.getElem?_append_left (by omega)]; exact e1
      have fB : (frzOf (H ++ [.cells 0 false (cI (backL k l))]) lv)[H.length]? = some (.cells 0 false (cI (backL k l))) := by
        rw [hF _ (fun h => by have := hlb _ h; omega), get_at0]; rfl
      have hFl : (frzOf (H ++ [.cells 0 false (cI (backL k l))]) lv).length = H.length + 1 := by rw [frzOf_len]; simp
      have iL : IsI (rv false l.length 1 (cI l)) l := is_rv (by simp [cI]) (closeds_cI l)
      have c1 := (g.s.ind k _ E _ l iE iL (by rw [hO.1]; omega)).eq
      rw [o1] at c1
      simp only [gR] at c1
      have iH := isE_r hE
      have hHlen := iH.len
      rw [o3] at hHlen
      have cHh := fun a b : Int => (g.has k a b _ hE iH).eq
      have cHg := fun a b : Int => (g.has k a b _ E iE).eq
      have e1J := get_more [.cells 0 false (cI (backL k l))] e1
      generalize frzOf (H ++ [.cells 0 false (cI (backL k l))]) lv = F at *
      generalize rE hE = V at *
      generalize hu1 : rv false l.length 1 (cI l) = u1 at *
      have f1J := get_more [.cells 0 false [.int .i64 (k : Int), V]] f1
      have fv2 : Vw false (F ++ [.cells 0 false [.int .i64 k, V]]) lv 1 l.length (cI l) := fv.keep fun b hb => List.getElem?_append_left (by have := hlb b hb; omega)
      simp [-List.getD_eq_getElem?_getD, -Int.ofNat_toNat, -getElem?_pos, er49_0, er49_1, er49_2, er49_3, er49_4, er49_5, er49_6, er49_7, er49_8, er49_9, er49_10, er49_12, er49_13, er49_14, er49_15, er49_16, er49_18, er49_19, er49_20, er49_21, er49_22, er49_23, er49_24, er49_25, er49_26, er49_27, er49_29, er49_31, er49_32, e1J, hLl, hik', hie, va, c1, iH.one, iH.cells, iH.closed, iE.closed, get_at, get_at0, set_at, set_at0, f1, f1J, hHlen, hElen]
      refine pc_loopI (fun m st => ∃ (a : Nat) (b14 p21 p22 p23 : AV), a + m = k ∧
        st = ([gV n v, bv, .ptr 0 0 0, .bool false, .bool true, .ptr 1 0 0, lv, .int .i64 k, a8, .sl H.length 0 0 k 1 k true, .int .i64 k, .ptr F.length 0 0, .int .i64 0, .int .i64 a, b14, .un, .un, .bool false, p18, .bool false, .bool false, p21, p22, p23], F ++ [.cells 0 false [.int .i64 k, V]])) k
        ⟨0, _, _, _, _, by simp, rfl⟩ ?_
      rintro m st ⟨a, b14, p21, p22, p23, ha, rfl⟩
      by_cases hak : a < k
      · have hak' : (a : Int) < k := by omega
        have haw := wrap1 hak (by omega)
        simp [-List.getD_eq_getElem?_getD, -Int.ofNat_toNat, -getElem?_pos, er49_0, er49_1, er49_2, er49_3, er49_4, er49_5, er49_6, er49_7, er49_8, er49_9, er49_10, er49_12, er49_13, er49_14, er49_15, er49_16, er49_18, er49_19, er49_20, er49_21, er49_22, er49_23, er49_24, er49_25, er49_26, er49_27, er49_29, er49_31, er49_32, f1J, hak', hak, haw]
        refine pc_loopI (fun m2 st => ∃ (b : Nat) (p22 p23 : AV), b + m2 = a ∧
          st = ([gV n v, bv, .ptr 0 0 0, .bool false, .bool true, .ptr 1 0 0, lv, .int .i64 k, a8, .sl H.length 0 0 k 1 k true, .int .i64 k, .ptr F.length 0 0, .int .i64 0, .int .i64 a, .int .i64 b, .un, .un, .bool false, p18, .bool false, .bool false, .bool true, p22, p23], F ++ [.cells 0 false [.int .i64 k, V]])) a
          ⟨0, _, _, by simp, rfl⟩ ?_
        rintro m2 st2 ⟨b, p22, p23, hb', rfl⟩
        by_cases hba : b < a
        · have hba' : (b : Int) < a := by omega
          have hbw := wrap1 hba (by omega)
          have hal : a < l.length := by rw [hO.1]; exact hak
          have hbl : b < l.length := by omega
          obtain ⟨ba, ga, ra, oia, oca, _⟩ := fv2.at hal
          obtain ⟨bb, gb, rb, oib, ocb, _⟩ := fv2.at hbl
          have za := cI_get hal
          have zb := cI_get hbl
          have hh := o4 a b hak (by omega) (by omega)
          have da : l.getD a 0 = l[a] := by rw [List.getD_eq_getElem?_getD, List.getElem?_eq_getElem hal]; rfl
          have db : l.getD b 0 = l[b] := by rw [List.getD_eq_getElem?_getD, List.getElem?_eq_getElem hbl]; rfl
          rw [da, db] at hh
          have q1 := cHh a b
          have q2 := cHg l[a] l[b]
          rw [hh] at q1
          have fEg : (F ++ [.cells 0 false [.int .i64 (k : Int), V]])[F.length]? = some (.cells 0 false [.int .i64 k, V]) := get_at0 _ _
          cases hasE (k : Int) E l[a] l[b] <;>
          · simp [-List.getD_eq_getElem?_getD, -Int.ofNat_toNat, -getElem?_pos, er49_0, er49_1, er49_2, er49_3, er49_4, er49_5, er49_6, er49_7, er49_8, er49_9, er49_10, er49_12, er49_13, er49_14, er49_15, er49_16, er49_18, er49_19, er49_20, er49_21, er49_22, er49_23, er49_24, er49_25, er49_26, er49_27, er49_29, er49_31, er49_32, f1J, fEg, hba', hba, hbw, oia, oca, oib, ocb, za, zb, q1, q2, PDX_eq, iH.closed, iE.closed]
            exact next_mk (m2 - 1) (by omega) ⟨b + 1, _, _, by omega, rfl⟩
        · have hba' : ¬ (b : Int) < a := by omega
          simp [-List.getD_eq_getElem?_getD, -Int.ofNat_toNat, -getElem?_pos, er49_0, er49_1, er49_2, er49_3, er49_4, er49_5, er49_6, er49_7, er49_8, er49_9, er49_10, er49_12, er49_13, er49_14, er49_15, er49_16, er49_18, er49_19, er49_20, er49_21, er49_22, er49_23, er49_24, er49_25, er49_26, er49_27, er49_29, er49_31, er49_32, hba, hba', haw]
          exact next_mk (m - 1) (by omega) ⟨a + 1, _, _, _, _, by omega, rfl⟩
      · have hak' : ¬ (a : Int) < k := by omega
        have fEg : (F ++ [.cells 0 false [.int .i64 (k : Int), V]])[F.length]? = some (.cells 0 false [.int .i64 k, V]) := get_at0 _ _
        have bown : Own false H.length (F ++ [.cells 0 false [.int .i64 (k : Int), V]]) (.sl H.length 0 0 k 1 k true) 1 k (cI (backL k l)) := own_new (Nat.le_refl _) (by simp [cI, backL]) (get_more _ fB) (fun _ => rfl)
        have hvc : (gV (k : Int) V).closed = true := by simp [iH.closed]
        have vb := (Own.vw bown).r2 (closeds_cI _) (gV (k : Int) V) hvc
        have hG : ∀ b, b ≠ H.length → (frzOf (F ++ [.cells 0 false [.int .i64 (k : Int), V]]) (.sl H.length 0 0 k 1 k true))[b]? = (F ++ [.cells 0 false [.int .i64 (k : Int), V]])[b]? := fun b hb => frzOf_get _ _ (fun h => by
          simp only [blkOf] at h
          split at h
          · cases h
          · simp at h; omega)
        have g1 := (hG 1 (by omega)).trans f1J
        have iB : IsI (rv false k 1 (cI (backL k l))) (backL k l) := by
          have := is_rv (nl := false) (n := k) (sz := 1) (c := cI (backL k l)) (by simp [cI, backL]) (closeds_cI _)
          have e : (backL k l).length = k := by simp [backL]
          unfold IsI; rw [e]; exact this
        have c2 := (g.s.ind k _ hE _ (backL k l) iH iB (by simp [backL]; omega)).eq
        rw [o5] at c2
        simp only [gR, hUe] at c2
        have c3 := (g.s.sameG k k _ _ _ _ iE iE (by omega)).eq
        generalize frzOf (F ++ [.cells 0 false [.int .i64 (k : Int), V]]) (.sl H.length 0 0 k 1 k true) = F2 at *
        generalize rv false k 1 (cI (backL k l)) = u2 at *
        have g1J := get_more [.cells 0 false [.int .i64 (k : Int), U]] g1
        simp [-List.getD_eq_getElem?_getD, -Int.ofNat_toNat, -getElem?_pos, er49_0, er49_1, er49_2, er49_3, er49_4, er49_5, er49_6, er49_7, er49_8, er49_9, er49_10, er49_12, er49_13, er49_14, er49_15, er49_16, er49_18, er49_19, er49_20, er49_21, er49_22, er49_23, er49_24, er49_25, er49_26, er49_27, er49_29, er49_31, er49_32, f1J, hak', fEg, vb, c2, c3, iE.one, iE.cells, iE.closed, get_at, get_at0, set_at, set_at0, g1, g1J, resK, resVs, resV, pack]
end Go.Ai.G
