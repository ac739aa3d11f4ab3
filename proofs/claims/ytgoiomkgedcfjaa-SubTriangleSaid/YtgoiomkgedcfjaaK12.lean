/- A part of what the law leans on: the abstract machine, the contracts, the rows. -/
import Derived.Test.YtgoiomkgedcfjaaK9
import Derived.Test.YtgoiomkgedcfjaaK11
import Derived.Test.YtgoiomkgedcfjaaK7
import Derived.Test.YtgoiomkgedcfjaaK6
import Derived.Test.YtgoiomkgedcfjaaK5
/- What graph.Has and graph.Near tell, against the reference; all contracts together. -/
namespace Go.Ai.G
open Go.Ai
set_option linter.unusedVariables false
set_option linter.unusedSimpArgs false
variable {A : AProg} {φ : Nat → Nat}
def nbo (v : Int) (x : Ed) : List Int := (if x.2 = v then [x.1] else []) ++ (if x.1 = v then [x.2] else [])
theorem nbs_all (v : Int) : ∀ (es : List Ed), es.Pairwise ltE → (∀ x ∈ es, x.1 < x.2) → nbs v es = es.flatMap (nbo v)
  | [], _, _ => rfl
  | x :: l, hp, hx => by
    rw [List.pairwise_cons] at hp
    simp only [nbs]
    split
    · rename_i h
      symm
      rw [List.flatMap_eq_nil_iff]
      intro y hy
      have hxy : x.1 ≤ y.1 := by
        rcases List.mem_cons.1 hy with rfl | hy
        · exact Int.le_refl _
        · have := hp.1 y hy; unfold ltE at this; omega
      have := hx y hy
      simp only [nbo]
      rw [if_neg (by omega), if_neg (by omega)]; rfl
    · rw [List.flatMap_cons, nbs_all v l hp.2 (fun y hy => hx y (List.mem_cons_of_mem _ hy)), nbo]
theorem right_lt {n : Int} {es : List Ed} (h : rightE n es = true) : ∀ x ∈ es, x.1 < x.2 := by
  intro x hx
  obtain ⟨i, hi, rfl⟩ := List.getElem_of_mem hx
  exact (right_step h hi).2.1
theorem has_eq (n : Int) (es : List Ed) (a b : Int) : (nearI n es a).contains b = hasE n es a b := by
  unfold nearI hasE
  cases h : rightE n es with
  | false => simp
  | true =>
    rw [if_pos rfl, nbs_all a es (right_strict h) (right_lt h), Bool.true_and, Bool.eq_iff_iff]
    simp only [List.contains_iff_mem, List.mem_flatMap, nbo, List.mem_append, Bool.or_eq_true, decide_eq_true_eq]
    constructor
    · rintro ⟨⟨x, y⟩, hm, h | h⟩
      · simp only at h; split at h
        · rename_i e; simp at h; subst h; subst e; exact .inr hm
        · simp at h
      · simp only at h; split at h
        · rename_i e; simp at h; subst h; subst e; exact .inl hm
        · simp at h
    · rintro (h | h)
      · exact ⟨_, h, .inr (by simp)⟩
      · exact ⟨_, h, .inl (by simp)⟩
end Go.Ai.G
/- The laws of the chapter on graphs. -/
namespace Go.Ai.G
open Go.Ai
set_option maxRecDepth 100000
set_option linter.unusedSimpArgs false
set_option linter.unusedVariables false
variable {A : AProg} {φ : Nat → Nat}
attribute [local simp ↓] getD_z getD_s hid_k hid_o hid_q hid_v PO_nil PO_none PO_grd PD_nil PD_none PD_grd PDO_N PDO_X PDO_call PDO_calli PDO_callv PStep_N PStep_X PStep_call PStep_calli PC_skip PC_lab
  PC_ret PC_exit PC_reg PC_draw PC_seq PC_block PC_loop PC_scope PC_cond thenC_norm thenC_ret thenC_exit blockC_norm blockC_ret blockC_exit loopC_norm loopC_ret loopC_exit endR_ret
  endR_norm
attribute [local simp] gz PDX_free PDX_eq PStep_callv resK_none resK_t resK_tt KNO_val KNO_new KNO_ite KNO_map KXO_some KXO_ite KVA_t KVA_f KG_skip KG_tt KG_ff KG_tf KG_ft KB_true KB_false KNOD_val
  KNOD_new KNOD_ite n_mv n_pick n_bin n_eqB n_eqN n_eqS n_un n_conv n_fadd n_faddV n_fld1 n_fldN n_idx n_idxA n_idxV n_idxAV n_ext n_lenS n_lenS0 n_lenV n_lenT n_lenA n_min n_max
  n_build n_mkfn n_slc n_slc0 n_slcV n_slcA n_load1 n_loadN n_load1V n_loadNV n_alloc n_box n_bsl n_mksl n_nilcP n_nilcV n_nilcI n_nilcF x_store x_clear0 x_clear b_add b_sub b_mul
  b_eql b_neq b_lss b_leq b_gtr b_geq b_and16 unV ntouch gather hide unhide evalOpd applyOuts int_bne int_beq ite_bool ite_int one_bool cells_bool one_int cells_int one_str cells_str
  one_nilp cells_nilp one_ptr cells_ptr one_nils cells_nils one_sl cells_sl one_nilf cells_nilf one_fn cells_fn one_nili cells_nili one_mp cells_mp one_nilm cells_nilm one_iface
  cells_iface one_vs cells_vs one_vp cells_vp cells_agg Nat.testBit setAt_1 setAt_2 closeds_nil closeds_cons closed_bool closed_int closed_str closed_nilp closed_nils closed_nilm
  closed_nilf closed_nili closed_agg closed_tup closed_vs closed_vp closed_iface closed_fn closeds_cI closeds_cE viewA_closed viewR_closed AV.scal AV.scal0 fillA repA part_bool
  part_int part_str part_nilp part_ptr part_nils part_sl part_nilm part_mp part_nilf part_fn part_nili part_iface part_agg part_vs part_vp viewA_sl1 vaSl_cells wrap_0 wrap_1 wrap_2
  wrap_m1 set_last get_last
theorem right_of {n : Int} {es : List Ed} (h0 : 0 ≤ n) (h1 : n ≤ 1000) (hl : es.length ≤ 4000) (hs : es.Pairwise ltE) (he : ∀ x ∈ es, 0 ≤ x.1 ∧ x.1 < x.2 ∧ x.2 < n) : rightE n es = true := by
  unfold rightE
  rw [Bool.and_eq_true, decide_eq_true_eq, List.all_eq_true]
  refine ⟨⟨h0, h1, hl⟩, fun i hi => ?_⟩
  have hi := List.mem_range.1 hi
  obtain ⟨e1, e2, e3⟩ := he _ (List.getElem_mem hi)
  simp only [stepE, List.getD_eq_getElem?_getD, List.getElem?_eq_getElem hi, Option.getD_some, Bool.and_eq_true, decide_eq_true_eq, Bool.or_eq_true, beq_iff_eq]
  refine ⟨⟨⟨e1, e2⟩, e3⟩, ?_⟩
  by_cases e : i = 0
  · exact .inl e
  · right
    have hi1 : i - 1 < es.length := by omega
    rw [List.getElem?_eq_getElem hi1, Option.getD_some]
    exact (cmpE_neg _ _).2 (List.pairwise_iff_getElem.1 hs (i - 1) i hi1 hi (by omega))
theorem setE_ends {n : Int} {l : List Ed} (h : l.all (okEnds n) = true) : ∀ x ∈ setE l, 0 ≤ x.1 ∧ x.1 < x.2 ∧ x.2 < n := by
  intro x hx
  rw [setE_mem, normsE_mem] at hx
  obtain ⟨y, hy, hne, rfl⟩ := hx
  have := List.all_eq_true.1 h y hy
  simp only [okEnds, Bool.and_eq_true, decide_eq_true_eq] at this
  simp only
  omega
theorem normalE_right {n : Int} {l : List Ed} (h : (normalE n l).2.2 = 0) : rightE (normalE n l).1 (normalE n l).2.1 = true := by
  have hd : normalE n l = if n < 0 then (0, [], 1) else if n > 1000 then (0, [], 5) else if l.all (okEnds n) then (if (setE l).length > 4000 then (0, [], 5) else (n, setE l, 0)) else (0, [], 4) := rfl
  rw [hd] at h ⊢
  by_cases h1 : n < 0
  · simp [h1] at h
  by_cases h2 : n > 1000
  · simp [h1, h2] at h
  by_cases h3 : l.all (okEnds n) = true
  · by_cases h4 : (setE l).length > 4000
    · simp only [h1, h2, h3, h4, if_true, if_false] at h; simp at h
    · simp only [h1, h2, h3, h4, if_true, if_false]
      exact right_of (by omega) (by omega) (by omega) (setE_strict l) (setE_ends h3)
  · simp only [h1, h2, h3, if_false] at h; simp at h
theorem normalE_len (n : Int) (l : List Ed) : (normalE n l).2.1.length ≤ 4000 := by
  unfold normalE
  split; · simp
  split; · simp
  split
  · split
    · simp
    · simp only; omega
  · simp
end Go.Ai.G
/- GraphRight. -/
namespace Go.Ai.G
open Go.Ai
set_option maxRecDepth 100000
set_option linter.unusedSimpArgs false
set_option linter.unusedVariables false
variable {A : AProg} {φ : Nat → Nat}
attribute [local simp ↓] getD_z getD_s hid_k hid_o hid_q hid_v PO_nil PO_none PO_grd PD_nil PD_none PD_grd PDO_N PDO_X PDO_call PDO_calli PDO_callv PStep_N PStep_X PStep_call PStep_calli PC_skip PC_lab
  PC_ret PC_exit PC_reg PC_draw PC_seq PC_block PC_loop PC_scope PC_cond thenC_norm thenC_ret thenC_exit blockC_norm blockC_ret blockC_exit loopC_norm loopC_ret loopC_exit endR_ret
  endR_norm
attribute [local simp] gz PDX_free PDX_eq PStep_callv resK_none resK_t resK_tt KNO_val KNO_new KNO_ite KNO_map KXO_some KXO_ite KVA_t KVA_f KG_skip KG_tt KG_ff KG_tf KG_ft KB_true KB_false KNOD_val
  KNOD_new KNOD_ite n_mv n_pick n_bin n_eqB n_eqN n_eqS n_un n_conv n_fadd n_faddV n_fld1 n_fldN n_idx n_idxA n_idxV n_idxAV n_ext n_lenS n_lenS0 n_lenV n_lenT n_lenA n_min n_max
  n_build n_mkfn n_slc n_slc0 n_slcV n_slcA n_load1 n_loadN n_load1V n_loadNV n_alloc n_box n_bsl n_mksl n_nilcP n_nilcV n_nilcI n_nilcF x_store x_clear0 x_clear b_add b_sub b_mul
  b_eql b_neq b_lss b_leq b_gtr b_geq b_and16 unV ntouch gather hide unhide evalOpd applyOuts int_bne int_beq ite_bool ite_int one_bool cells_bool one_int cells_int one_str cells_str
  one_nilp cells_nilp one_ptr cells_ptr one_nils cells_nils one_sl cells_sl one_nilf cells_nilf one_fn cells_fn one_nili cells_nili one_mp cells_mp one_nilm cells_nilm one_iface
  cells_iface one_vs cells_vs one_vp cells_vp cells_agg Nat.testBit setAt_1 setAt_2 closeds_nil closeds_cons closed_bool closed_int closed_str closed_nilp closed_nils closed_nilm
  closed_nilf closed_nili closed_agg closed_tup closed_vs closed_vp closed_iface closed_fn closeds_cI closeds_cE viewA_closed viewR_closed AV.scal AV.scal0 fillA repA part_bool
  part_int part_str part_nilp part_ptr part_nils part_sl part_nilm part_mp part_nilf part_fn part_nili part_iface part_agg part_vs part_vp viewA_sl1 vaSl_cells wrap_0 wrap_1 wrap_2
  wrap_m1 set_last get_last
end Go.Ai.G
/- GraphAdds. -/
namespace Go.Ai.G
open Go.Ai
set_option maxRecDepth 100000
set_option linter.unusedSimpArgs false
set_option linter.unusedVariables false
variable {A : AProg} {φ : Nat → Nat}
attribute [local simp ↓] getD_z getD_s hid_k hid_o hid_q hid_v PO_nil PO_none PO_grd PD_nil PD_none PD_grd PDO_N PDO_X PDO_call PDO_calli PDO_callv PStep_N PStep_X PStep_call PStep_calli PC_skip PC_lab
  PC_ret PC_exit PC_reg PC_draw PC_seq PC_block PC_loop PC_scope PC_cond thenC_norm thenC_ret thenC_exit blockC_norm blockC_ret blockC_exit loopC_norm loopC_ret loopC_exit endR_ret
  endR_norm
attribute [local simp] gz PDX_free PDX_eq PStep_callv resK_none resK_t resK_tt KNO_val KNO_new KNO_ite KNO_map KXO_some KXO_ite KVA_t KVA_f KG_skip KG_tt KG_ff KG_tf KG_ft KB_true KB_false KNOD_val
  KNOD_new KNOD_ite n_mv n_pick n_bin n_eqB n_eqN n_eqS n_un n_conv n_fadd n_faddV n_fld1 n_fldN n_idx n_idxA n_idxV n_idxAV n_ext n_lenS n_lenS0 n_lenV n_lenT n_lenA n_min n_max
  n_build n_mkfn n_slc n_slc0 n_slcV n_slcA n_load1 n_loadN n_load1V n_loadNV n_alloc n_box n_bsl n_mksl n_nilcP n_nilcV n_nilcI n_nilcF x_store x_clear0 x_clear b_add b_sub b_mul
  b_eql b_neq b_lss b_leq b_gtr b_geq b_and16 unV ntouch gather hide unhide evalOpd applyOuts int_bne int_beq ite_bool ite_int one_bool cells_bool one_int cells_int one_str cells_str
  one_nilp cells_nilp one_ptr cells_ptr one_nils cells_nils one_sl cells_sl one_nilf cells_nilf one_fn cells_fn one_nili cells_nili one_mp cells_mp one_nilm cells_nilm one_iface
  cells_iface one_vs cells_vs one_vp cells_vp cells_agg Nat.testBit setAt_1 setAt_2 closeds_nil closeds_cons closed_bool closed_int closed_str closed_nilp closed_nils closed_nilm
  closed_nilf closed_nili closed_agg closed_tup closed_vs closed_vp closed_iface closed_fn closeds_cI closeds_cE viewA_closed viewR_closed AV.scal AV.scal0 fillA repA part_bool
  part_int part_str part_nilp part_ptr part_nils part_sl part_nilm part_mp part_nilf part_fn part_nili part_iface part_agg part_vs part_vp viewA_sl1 vaSl_cells wrap_0 wrap_1 wrap_2
  wrap_m1 set_last get_last
theorem get_at (F J : Heap) (k : Nat) : (F ++ J)[F.length + k]? = J[k]? := by rw [List.getElem?_append_right (by omega)]; congr 1; omega
theorem get_at0 (F J : Heap) : (F ++ J)[F.length]? = J[0]? := get_at F J 0
theorem set_at (F J : Heap) (k : Nat) (x : Ob) : (F ++ J).set (F.length + k) x = F ++ J.set k x := by rw [List.set_append_right _ _ (by omega)]; congr 2; omega
theorem set_at0 (F J : Heap) (x : Ob) : (F ++ J).set F.length x = F ++ J.set 0 x := set_at F J 0 x
end Go.Ai.G
/- GraphBack. -/
namespace Go.Ai.G
open Go.Ai
set_option maxRecDepth 100000
set_option linter.unusedSimpArgs false
set_option linter.unusedVariables false
variable {A : AProg} {φ : Nat → Nat}
attribute [local simp ↓] getD_z getD_s hid_k hid_o hid_q hid_v PO_nil PO_none PO_grd PD_nil PD_none PD_grd PDO_N PDO_X PDO_call PDO_calli PDO_callv PStep_N PStep_X PStep_call PStep_calli PC_skip PC_lab
  PC_ret PC_exit PC_reg PC_draw PC_seq PC_block PC_loop PC_scope PC_cond thenC_norm thenC_ret thenC_exit blockC_norm blockC_ret blockC_exit loopC_norm loopC_ret loopC_exit endR_ret
  endR_norm
attribute [local simp] gz PDX_free PDX_eq PStep_callv resK_none resK_t resK_tt KNO_val KNO_new KNO_ite KNO_map KXO_some KXO_ite KVA_t KVA_f KG_skip KG_tt KG_ff KG_tf KG_ft KB_true KB_false KNOD_val
  KNOD_new KNOD_ite n_mv n_pick n_bin n_eqB n_eqN n_eqS n_un n_conv n_fadd n_faddV n_fld1 n_fldN n_idx n_idxA n_idxV n_idxAV n_ext n_lenS n_lenS0 n_lenV n_lenT n_lenA n_min n_max
  n_build n_mkfn n_slc n_slc0 n_slcV n_slcA n_load1 n_loadN n_load1V n_loadNV n_alloc n_box n_bsl n_mksl n_nilcP n_nilcV n_nilcI n_nilcF x_store x_clear0 x_clear b_add b_sub b_mul
  b_eql b_neq b_lss b_leq b_gtr b_geq b_and16 unV ntouch gather hide unhide evalOpd applyOuts int_bne int_beq ite_bool ite_int one_bool cells_bool one_int cells_int one_str cells_str
  one_nilp cells_nilp one_ptr cells_ptr one_nils cells_nils one_sl cells_sl one_nilf cells_nilf one_fn cells_fn one_nili cells_nili one_mp cells_mp one_nilm cells_nilm one_iface
  cells_iface one_vs cells_vs one_vp cells_vp cells_agg Nat.testBit setAt_1 setAt_2 closeds_nil closeds_cons closed_bool closed_int closed_str closed_nilp closed_nils closed_nilm
  closed_nilf closed_nili closed_agg closed_tup closed_vs closed_vp closed_iface closed_fn closeds_cI closeds_cE viewA_closed viewR_closed AV.scal AV.scal0 fillA repA part_bool
  part_int part_str part_nilp part_ptr part_nils part_sl part_nilm part_mp part_nilf part_fn part_nili part_iface part_agg part_vs part_vp viewA_sl1 vaSl_cells wrap_0 wrap_1 wrap_2
  wrap_m1 set_last get_last
theorem any_right (n : Int) (l : List Ed) {most : Int} (h0 : 0 ≤ most) (h1 : most ≤ 1000) : rightE (anyN n most) (anyE n most l) = true := by
  have := @normalE_right (anyN n most) (anyL (anyN n most) l)
  rw [any_normal l h0 h1] at this
  exact this rfl
theorem anyE_len (n most : Int) (l : List Ed) : (anyE n most l).length ≤ 300 := Nat.le_trans (setE_le _) (anyL_len _ _)
theorem right_ends {n : Int} {es : List Ed} (h : rightE n es = true) : ∀ x ∈ es, 0 ≤ x.1 ∧ x.1 < x.2 ∧ x.2 < n := by
  intro x hx
  obtain ⟨i, hi, rfl⟩ := List.getElem_of_mem hx
  exact right_step h hi
end Go.Ai.G
/- sub.names.renamed. -/
namespace Go.Ai.G
open Go.Ai
set_option maxRecDepth 100000
set_option linter.unusedSimpArgs false
set_option linter.unusedVariables false
variable {A : AProg} {φ : Nat → Nat}
attribute [local simp ↓] getD_z getD_s hid_k hid_o hid_q hid_v PO_nil PO_none PO_grd PD_nil PD_none PD_grd PDO_N PDO_X PDO_call PDO_calli PDO_callv PStep_N PStep_X PStep_call PStep_calli PC_skip PC_lab
  PC_ret PC_exit PC_reg PC_draw PC_seq PC_block PC_loop PC_scope PC_cond thenC_norm thenC_ret thenC_exit blockC_norm blockC_ret blockC_exit loopC_norm loopC_ret loopC_exit endR_ret
  endR_norm
attribute [local simp] gz PDX_free PDX_eq PStep_callv resK_none resK_t resK_tt KNO_val KNO_new KNO_ite KNO_map KXO_some KXO_ite KVA_t KVA_f KG_skip KG_tt KG_ff KG_tf KG_ft KB_true KB_false KNOD_val
  KNOD_new KNOD_ite n_mv n_pick n_bin n_eqB n_eqN n_eqS n_un n_conv n_fadd n_faddV n_fld1 n_fldN n_idx n_idxA n_idxV n_idxAV n_ext n_lenS n_lenS0 n_lenV n_lenT n_lenA n_min n_max
  n_build n_mkfn n_slc n_slc0 n_slcV n_slcA n_load1 n_loadN n_load1V n_loadNV n_alloc n_box n_bsl n_mksl n_nilcP n_nilcV n_nilcI n_nilcF x_store x_clear0 x_clear b_add b_sub b_mul
  b_eql b_neq b_lss b_leq b_gtr b_geq b_and16 unV ntouch gather hide unhide evalOpd applyOuts int_bne int_beq ite_bool ite_int one_bool cells_bool one_int cells_int one_str cells_str
  one_nilp cells_nilp one_ptr cells_ptr one_nils cells_nils one_sl cells_sl one_nilf cells_nilf one_fn cells_fn one_nili cells_nili one_mp cells_mp one_nilm cells_nilm one_iface
  cells_iface one_vs cells_vs one_vp cells_vp cells_agg Nat.testBit setAt_1 setAt_2 closeds_nil closeds_cons closed_bool closed_int closed_str closed_nilp closed_nils closed_nilm
  closed_nilf closed_nili closed_agg closed_tup closed_vs closed_vp closed_iface closed_fn closeds_cI closeds_cE viewA_closed viewR_closed AV.scal AV.scal0 fillA repA part_bool
  part_int part_str part_nilp part_ptr part_nils part_sl part_nilm part_mp part_nilf part_fn part_nili part_iface part_agg part_vs part_vp viewA_sl1 vaSl_cells wrap_0 wrap_1 wrap_2
  wrap_m1 set_last get_last
theorem er54_0 (φ : Nat → Nat) : r54_0 φ = [
  ⟨0, .N .box, [.n 0], none, 0⟩,
  ⟨1, .N .box, [.n 1], none, 0⟩,
  ⟨2, .N (.alloc [.int .i64 0, .nils]), [], none, 0⟩,
  ⟨3, .N .mv, [.c (.int .i64 0)], none, 0⟩] := Eq.trans rfl rfl
theorem er54_1 (φ : Nat → Nat) : r54_1 φ = [
  ⟨0, .N .mv, [.c (.nils)], none, 0⟩] := Eq.trans rfl rfl
theorem er54_2 (φ : Nat → Nat) : r54_2 φ = [
  ⟨0, .N (.fadd 1), [.n 3], none, 0⟩,
  ⟨1, .N .load1, [.l 0], none, 0⟩,
  ⟨2, .N .lenS, [.l 0], none, 0⟩,
  ⟨3, .N .mv, [.c (.int .i64 0)], none, 0⟩] := Eq.trans rfl rfl
theorem er54_3 (φ : Nat → Nat) : r54_3 φ = [
  ⟨0, .N (.bin .lss), [.n 12, .n 11], none, 0⟩] := Eq.trans rfl rfl
theorem er54_4 (φ : Nat → Nat) : r54_4 φ = [
  ⟨0, .N (.idx 2), [.n 10, .n 12], none, 0⟩,
  ⟨1, .N (.loadN 2), [.l 0], none, 0⟩,
  ⟨2, .N (.alloc [.int .i64 0, .int .i64 0]), [], none, 0⟩,
  ⟨3, .X (.store 2), [.l 0, .l 1], none, 0⟩] := Eq.trans rfl rfl
theorem er54_5 (φ : Nat → Nat) : r54_5 φ = [
  ⟨0, .N (.fadd 1), [.n 2], none, 0⟩,
  ⟨1, .N .load1, [.l 0], none, 1⟩,
  ⟨2, .N (.fadd 0), [.n 7], none, 0⟩,
  ⟨3, .N .load1, [.l 0], none, 4⟩,
  ⟨5, .N (.fadd 1), [.n 2], none, 0⟩,
  ⟨6, .N .load1, [.l 0], none, 16⟩,
  ⟨7, .N (.fadd 1), [.n 7], none, 0⟩,
  ⟨8, .N .load1, [.l 0], none, 64⟩,
  ⟨4, .callv, [.l 6, .l 4], none, 15⟩,
  ⟨9, .callv, [.l 3, .l 1], none, 511⟩,
  ⟨10, .N .mv, [.l 1], none, 1023⟩,
  ⟨11, .N .mv, [.l 1], none, 2047⟩] := Eq.trans rfl rfl
theorem er54_6 (φ : Nat → Nat) : r54_6 φ = [
  ⟨0, .N .mv, [.n 8], none, 0⟩,
  ⟨1, .N (.bin .geq), [.l 0, .c (.int .i64 0)], none, 0⟩,
  ⟨2, .N .mv, [.l 0], none, 0⟩,
  ⟨3, .N .mv, [.n 9], some (.l 0, true), 0⟩,
  ⟨4, .N (.bin .geq), [.l 0, .c (.int .i64 0)], some (.l 1, true), 0⟩,
  ⟨5, .N .pick, [.l 2, .l 0, .c (.bool false)], none, 0⟩] := Eq.trans rfl rfl
theorem er54_7 (φ : Nat → Nat) : r54_7 φ = [
  ⟨0, .N .mv, [.n 6], none, 0⟩,
  ⟨1, .N .mv, [.n 8], none, 0⟩,
  ⟨2, .N .mv, [.n 9], none, 0⟩,
  ⟨3, .N (.build [.int .i64 0, .int .i64 0] [(0, 1), (1, 1)]), [.l 1, .l 0], none, 0⟩,
  ⟨4, .N (.bsl [.int .i64 0, .int .i64 0] 1 2 [(0, 2)]), [.l 0], none, 0⟩,
  ⟨5, .X (.app 2 16), [.l 4, .l 0], none, 0⟩,
  ⟨6, .N .mv, [.l 0], none, 0⟩] := Eq.trans rfl rfl
theorem er54_8 (φ : Nat → Nat) : r54_8 φ = [
  ⟨0, .N (.bin .add), [.n 12, .c (.int .i64 1)], none, 0⟩,
  ⟨1, .N .mv, [.l 0], none, 0⟩] := Eq.trans rfl rfl
theorem er54_10 (φ : Nat → Nat) : r54_10 φ = [
  ⟨0, .N (.fadd 0), [.n 2], none, 0⟩,
  ⟨1, .N .load1, [.l 0], none, 0⟩,
  ⟨2, .N .mv, [.n 6], none, 0⟩,
  ⟨3, .calli false (φ 1), [.l 1, .l 0], none, 0⟩,
  ⟨4, .N (.ext 0), [.l 0], none, 0⟩,
  ⟨5, .N (.ext 1), [.l 1], none, 0⟩,
  ⟨6, .X (.store 2), [.n 4, .l 1], none, 0⟩,
  ⟨7, .N .mv, [.l 1], none, 0⟩] := Eq.trans rfl rfl
theorem er53_0 (φ : Nat → Nat) : r53_0 φ = [
  ⟨0, .N .mv, [.c (.int .i64 0)], none, 0⟩] := Eq.trans rfl rfl
theorem er53_1 (φ : Nat → Nat) : r53_1 φ = [
  ⟨0, .N .load1, [.n 1], none, 0⟩,
  ⟨1, .N .mv, [.n 0], none, 0⟩,
  ⟨2, .N (.idx 1), [.l 1, .l 0], none, 0⟩,
  ⟨3, .N .load1, [.l 0], none, 0⟩,
  ⟨4, .N (.bin .sub), [.l 0, .c (.int .i64 1)], none, 0⟩,
  ⟨5, .N .mv, [.l 0], none, 0⟩] := Eq.trans rfl rfl
/-- The edges under other names; what has none is left out. -/
def mapE (f : Int → Int) (es : List Ed) : List Ed := (es.map fun e => (f e.1, f e.2)).filter fun e => decide (0 ≤ e.1) && decide (0 ≤ e.2)
theorem mapE_snoc (f : Int → Int) (es : List Ed) (x : Ed) : mapE f (es ++ [x]) = mapE f es ++ (if 0 ≤ f x.1 ∧ 0 ≤ f x.2 then [(f x.1, f x.2)] else []) := by
  simp only [mapE, List.map_append, List.filter_append, List.map_cons, List.map_nil]
  congr 1
  by_cases h1 : 0 ≤ f x.1 <;> by_cases h2 : 0 ≤ f x.2 <;> simp [h1, h2]
theorem mapE_len (f : Int → Int) (es : List Ed) : (mapE f es).length ≤ es.length := by
  unfold mapE
  exact Nat.le_trans (List.length_filter_le _ _) (by simp)
set_option maxHeartbeats 1000000 in
theorem w_renamed (h : Has A (φ 54) (f54 φ)) (hN : NormalC A (φ 1)) (f : Int → Int) (fid : Nat) (cap : AV) (m N : Int) (u : AV) (es : List Ed) (hv : IsE u es) (hn : es.length ≤ 4000) (H : Heap) {K : AV → Heap → Prop} (hcap : cap.one = true)
    (hclo : ∀ e ∈ es, ∀ x, x = e.1 ∨ x = e.2 → ∀ (H' : Heap) (K' : AV → Heap → Prop), (∀ b, b < H.length → H'[b]? = H[b]?) → K' (.int .i64 (f x)) H' → PCall A fid [.int .i64 x, cap] H' K')
    (hk : ∀ H', (∀ b, b < H.length → H'[b]? = H[b]?) → H.length ≤ H'.length → K (nR m (mapE f es)) H') : PCall A (φ 54) [.agg [.int .i64 m, .fn (.func fid) [] [cap]], gV N u] H K := by
  have hlen := hv.len
  have hone := hv.one
  refine pcall_has h rfl ?_
  simp only [l54_9, b54, f54]
  simp [-List.getD_eq_getElem?_getD, -Int.ofNat_toNat, -getElem?_pos, er54_0, er54_1, er54_2, er54_3, er54_4, er54_5, er54_6, er54_7, er54_8, er54_10, hlen, hone, get_at, get_at0, set_at, set_at0]
  refine pc_loopI (fun k st => ∃ (i : Nat) (l x a b p13 p14 : AV) (H' : Heap), i + k = es.length ∧ OwnE true (H.length + 3) H' l (mapE f (es.take i)) ∧
      H'[H.length]? = some (.cells 0 false [.int .i64 m, .fn (.func fid) [] [cap]]) ∧ H'[H.length + 1]? = some (.cells 0 false [.int .i64 N, u]) ∧ H'[H.length + 2]? = some (.cells 0 false [.int .i64 0, .nils]) ∧ (∀ b, b < H.length → H'[b]? = H[b]?) ∧
      st = ([.agg [.int .i64 m, .fn (.func fid) [] [cap]], gV N u, .ptr H.length 0 0, .ptr (H.length + 1) 0 0, .ptr (H.length + 2) 0 0, .int .i64 0, l, x, a, b, u, .int .i64 es.length, .int .i64 i, p13, p14], H')) es.length
      ⟨0, _, _, _, _, _, _, _, by simp, own_nil _ _ _, get_at0 _ _, get_at _ _ 1, get_at _ _ 2, fun b hb => List.getElem?_append_left hb, rfl⟩ ?_
  rintro k st ⟨i, l, x, a, b, p13, p14, H', hi, ho, g0, g1, g2, hold, rfl⟩
  have hb2 := lt_of_get g2
  by_cases hlt : i < es.length
  · have hlt' : (i : Int) < es.length := by omega
    obtain ⟨i1, z1, z2, le1, t1⟩ := hv.at hlt
    have hw1 := wrap1 hlt (by omega)
    have hts : mapE f (es.take (i + 1)) = mapE f (es.take i) ++ (if 0 ≤ f es[i].1 ∧ 0 ≤ f es[i].2 then [(f es[i].1, f es[i].2)] else []) := by rw [List.take_succ_eq_append_getElem hlt, mapE_snoc]
    have hmem := List.getElem_mem hlt
    generalize es[i] = e at *
    have g0J : ∀ J, (H' ++ J)[H.length]? = some (.cells 0 false [.int .i64 m, .fn (.func fid) [] [cap]]) := fun J => get_more J g0
    simp [-List.getD_eq_getElem?_getD, -Int.ofNat_toNat, -getElem?_pos, er54_0, er54_1, er54_2, er54_3, er54_4, er54_5, er54_6, er54_7, er54_8, er54_10, hlt', i1, z1, z2, le1, t1, g0, g0J, get_at, get_at0, set_at, set_at0, PDX_eq]
    have hk1 : ∀ b, b < H.length → (H' ++ [.cells 0 false [.int .i64 e.1, .int .i64 e.2]])[b]? = H[b]? := fun b hb => by
      rw [List.getElem?_append_left (by omega)]; exact hold b hb
    refine hclo e hmem e.1 (.inl rfl) _ _ hk1 ?_
    simp only [hid_k]
    refine ⟨fun b _ => trivial, ?_⟩
    simp [-List.getD_eq_getElem?_getD, -Int.ofNat_toNat, -getElem?_pos, er54_0, er54_1, er54_2, er54_3, er54_4, er54_5, er54_6, er54_7, er54_8, er54_10, PDX_eq]
    refine hclo e hmem e.2 (.inr rfl) _ _ hk1 ?_
    simp only [hid_k]
    refine ⟨fun b _ => trivial, ?_⟩
    have hml := mapE_len f (es.take i)
    have hml2 : (es.take i).length ≤ es.length := by simp; omega
    obtain ⟨l1, H1, x1, x2, x3, x4, x5, x6⟩ := OwnE.app1 (ho.more [.cells 0 false [.int .i64 e.1, .int .i64 e.2]]) (f e.1) (f e.2) (by simp; omega) (by omega)
    simp only [List.append_assoc, List.cons_append, List.nil_append, List.length_append, List.length_cons, List.length_nil, Nat.zero_add] at x1
    by_cases q : 0 ≤ f e.1 ∧ 0 ≤ f e.2
    · rw [if_pos q] at hts
      obtain ⟨q1, q2⟩ := q
      simp [-List.getD_eq_getElem?_getD, -Int.ofNat_toNat, -getElem?_pos, er54_0, er54_1, er54_2, er54_3, er54_4, er54_5, er54_6, er54_7, er54_8, er54_10, q1, q2, x1, hw1]
      refine next_mk (k - 1) (by omega) ⟨i + 1, l1, _, _, _, _, _, H1, by omega, by rw [hts]; exact x2, ?_, ?_, ?_, fun b hb => ?_, rfl⟩
      · rw [x3 _ (by omega)]; exact g0J _
      · rw [x3 _ (by omega)]; exact get_more _ g1
      · rw [x3 _ (by omega)]; exact get_more _ g2
      · rw [x3 _ (by omega)]; exact hk1 b hb
    · rw [if_neg q, List.append_nil] at hts
      have fin : nextC (fun k st => ∃ (i : Nat) (l x a b p13 p14 : AV) (H' : Heap), i + k = es.length ∧ OwnE true (H.length + 3) H' l (mapE f (es.take i)) ∧
      H'[H.length]? = some (.cells 0 false [.int .i64 m, .fn (.func fid) [] [cap]]) ∧ H'[H.length + 1]? = some (.cells 0 false [.int .i64 N, u]) ∧ H'[H.length + 2]? = some (.cells 0 false [.int .i64 0, .nils]) ∧ (∀ b, b < H.length → H'[b]? = H[b]?) ∧
      st = ([.agg [.int .i64 m, .fn (.func fid) [] [cap]], gV N u, .ptr H.length 0 0, .ptr (H.length + 1) 0 0, .ptr (H.length + 2) 0 0, .int .i64 0, l, x, a, b, u, .int .i64 es.length, .int .i64 i, p13, p14], H')) () k
        ([.agg [.int .i64 m, .fn (.func fid) [] [cap]], gV N u, .ptr H.length 0 0, .ptr (H.length + 1) 0 0, .ptr (H.length + 2) 0 0, .int .i64 0, l, .ptr H'.length 0 0, .int .i64 (f e.1), .int .i64 (f e.2), u, .int .i64 es.length, .int .i64 ((i : Int) + 1), .bool true, .bool false], H' ++ [.cells 0 false [.int .i64 e.1, .int .i64 e.2]]) := by
        exact next_mk (k - 1) (by omega) ⟨i + 1, l, _, _, _, _, _, _, by omega, by rw [hts]; exact ho.more _, g0J _, get_more _ g1, get_more _ g2, hk1, rfl⟩
      by_cases q1 : 0 ≤ f e.1
      · have q2 : ¬ 0 ≤ f e.2 := fun h => q ⟨q1, h⟩
        simp [-List.getD_eq_getElem?_getD, -Int.ofNat_toNat, -getElem?_pos, er54_0, er54_1, er54_2, er54_3, er54_4, er54_5, er54_6, er54_7, er54_8, er54_10, q1, q2, hw1]
        simpa using fin
      · simp [-List.getD_eq_getElem?_getD, -Int.ofNat_toNat, -getElem?_pos, er54_0, er54_1, er54_2, er54_3, er54_4, er54_5, er54_6, er54_7, er54_8, er54_10, q1, hw1]
        simpa using fin
  · have hlt' : ¬ (i : Int) < es.length := by omega
    have htk : es.take i = es := List.take_of_length_le (by omega)
    rw [htk] at ho
    have hml := mapE_len f es
    have va := (Own.vw ho).r2 (closeds_cE _) (.int .i64 m) rfl
    have hbo : ∀ b, blkOf l = some b → H.length + 3 ≤ b := fun b hb => (Own.blk ho hb).1
    have hF : ∀ b, b < H.length + 3 → (frzOf H' l)[b]? = H'[b]? := fun b hb => frzOf_get _ _ (fun h => by have := hbo b h; omega)
    have hFl := frzOf_len H' l
    have i1 : IsE (rv true (mapE f es).length 2 (cellsE (mapE f es))) (mapE f es) := is_rv (cellsE_length _) (closeds_cE _)
    have c1 := (hN m _ (mapE f es) i1 (by omega)).eq
    have f0 := (hF H.length (by omega)).trans g0
    have f2 := (hF (H.length + 2) (by omega)).trans g2
    generalize frzOf H' l = F at *
    generalize hu1 : rv true (mapE f es).length 2 (cellsE (mapE f es)) = u1 at *
    have hxl := normalE_len m (mapE f es)
    simp only [nR] at c1 hk
    generalize normalE m (mapE f es) = y at *
    have iy := isE_r y.2.1
    have hset : ∀ z, (F.set (H.length + 2) z)[H.length + 2]? = some z := fun z => List.getElem?_set_self (by omega)
    simp [-List.getD_eq_getElem?_getD, -Int.ofNat_toNat, -getElem?_pos, er54_0, er54_1, er54_2, er54_3, er54_4, er54_5, er54_6, er54_7, er54_8, er54_10, hlt', g0, va, c1, f0, f2, iy.one, iy.cells, iy.closed, hset, resK, resVs, resV, pack]
    refine hk _ (fun b hb => ?_) (by simp; omega)
    rw [List.getElem?_set_ne (by omega), hF b (by omega)]; exact hold b hb
end Go.Ai.G
/- sub.Induced. -/
namespace Go.Ai.G
open Go.Ai
set_option maxRecDepth 100000
set_option linter.unusedSimpArgs false
set_option linter.unusedVariables false
variable {A : AProg} {φ : Nat → Nat}
attribute [local simp ↓] getD_z getD_s hid_k hid_o hid_q hid_v PO_nil PO_none PO_grd PD_nil PD_none PD_grd PDO_N PDO_X PDO_call PDO_calli PDO_callv PStep_N PStep_X PStep_call PStep_calli PC_skip PC_lab
  PC_ret PC_exit PC_reg PC_draw PC_seq PC_block PC_loop PC_scope PC_cond thenC_norm thenC_ret thenC_exit blockC_norm blockC_ret blockC_exit loopC_norm loopC_ret loopC_exit endR_ret
  endR_norm
attribute [local simp] gz PDX_free PDX_eq PStep_callv resK_none resK_t resK_tt KNO_val KNO_new KNO_ite KNO_map KXO_some KXO_ite KVA_t KVA_f KG_skip KG_tt KG_ff KG_tf KG_ft KB_true KB_false KNOD_val
  KNOD_new KNOD_ite n_mv n_pick n_bin n_eqB n_eqN n_eqS n_un n_conv n_fadd n_faddV n_fld1 n_fldN n_idx n_idxA n_idxV n_idxAV n_ext n_lenS n_lenS0 n_lenV n_lenT n_lenA n_min n_max
  n_build n_mkfn n_slc n_slc0 n_slcV n_slcA n_load1 n_loadN n_load1V n_loadNV n_alloc n_box n_bsl n_mksl n_nilcP n_nilcV n_nilcI n_nilcF x_store x_clear0 x_clear b_add b_sub b_mul
  b_eql b_neq b_lss b_leq b_gtr b_geq b_and16 unV ntouch gather hide unhide evalOpd applyOuts int_bne int_beq ite_bool ite_int one_bool cells_bool one_int cells_int one_str cells_str
  one_nilp cells_nilp one_ptr cells_ptr one_nils cells_nils one_sl cells_sl one_nilf cells_nilf one_fn cells_fn one_nili cells_nili one_mp cells_mp one_nilm cells_nilm one_iface
  cells_iface one_vs cells_vs one_vp cells_vp cells_agg Nat.testBit setAt_1 setAt_2 closeds_nil closeds_cons closed_bool closed_int closed_str closed_nilp closed_nils closed_nilm
  closed_nilf closed_nili closed_agg closed_tup closed_vs closed_vp closed_iface closed_fn closeds_cI closeds_cE viewA_closed viewR_closed AV.scal AV.scal0 fillA repA part_bool
  part_int part_str part_nilp part_ptr part_nils part_sl part_nilm part_mp part_nilf part_fn part_nili part_iface part_agg part_vs part_vp viewA_sl1 vaSl_cells wrap_0 wrap_1 wrap_2
  wrap_m1 set_last get_last
theorem er40_0 (φ : Nat → Nat) : r40_0 φ = [
  ⟨0, .N .box, [.n 0], none, 0⟩,
  ⟨1, .N (.alloc [.int .i64 0, .nils]), [], none, 0⟩,
  ⟨2, .N .mv, [.c (.int .i64 0)], none, 0⟩] := Eq.trans rfl rfl
theorem er40_1 (φ : Nat → Nat) : r40_1 φ = [
  ⟨0, .N (.loadN 2), [.n 2], none, 0⟩,
  ⟨1, .calli true (φ 4), [.l 0], none, 0⟩,
  ⟨2, .N (.un .not), [.l 0], none, 0⟩] := Eq.trans rfl rfl
theorem er40_2 (φ : Nat → Nat) : r40_2 φ = [
  ⟨0, .N (.build [.int .i64 0, .nils] []), [], none, 0⟩,
  ⟨1, .X (.store 2), [.n 3, .l 0], none, 0⟩,
  ⟨2, .N .mv, [.c (.int .i64 1)], none, 0⟩] := Eq.trans rfl rfl
theorem er40_3 (φ : Nat → Nat) : r40_3 φ = [
  ⟨0, .N (.fadd 0), [.n 2], none, 0⟩,
  ⟨1, .N .load1, [.l 0], none, 0⟩,
  ⟨2, .N (.mksl [.int .i64 0] 1 8), [.l 0, .l 0], none, 0⟩,
  ⟨3, .N (.alloc [.nils]), [], none, 0⟩,
  ⟨4, .X (.store 1), [.l 0, .l 1], none, 0⟩] := Eq.trans rfl rfl
theorem er40_4 (φ : Nat → Nat) : r40_4 φ = [
  ⟨0, .N .mv, [.c (.bool false)], none, 0⟩] := Eq.trans rfl rfl
theorem er40_5 (φ : Nat → Nat) : r40_5 φ = [
  ⟨0, .N .mv, [.n 1], none, 0⟩,
  ⟨1, .N .lenS, [.l 0], none, 0⟩,
  ⟨2, .N .mv, [.c (.int .i64 0)], none, 0⟩] := Eq.trans rfl rfl
theorem er40_6 (φ : Nat → Nat) : r40_6 φ = [
  ⟨0, .N (.bin .lss), [.n 12, .n 11], none, 0⟩] := Eq.trans rfl rfl
theorem er40_7 (φ : Nat → Nat) : r40_7 φ = [
  ⟨0, .N .mv, [.n 12], none, 0⟩,
  ⟨1, .N (.idx 1), [.n 10, .n 12], none, 0⟩,
  ⟨2, .N .load1, [.l 0], none, 0⟩,
  ⟨3, .N .mv, [.l 2], none, 0⟩,
  ⟨4, .N .mv, [.l 1], none, 0⟩] := Eq.trans rfl rfl
theorem er40_8 (φ : Nat → Nat) : r40_8 φ = [
  ⟨0, .N .mv, [.n 8], none, 0⟩,
  ⟨1, .N (.bin .lss), [.l 0, .c (.int .i64 0)], none, 0⟩,
  ⟨2, .N .mv, [.l 0], none, 0⟩,
  ⟨3, .N .mv, [.n 8], some (.l 0, false), 0⟩,
  ⟨4, .N (.fadd 0), [.n 2], some (.l 1, false), 0⟩,
  ⟨5, .N .load1, [.l 0], some (.l 2, false), 0⟩,
  ⟨6, .N (.bin .geq), [.l 2, .l 0], some (.l 3, false), 0⟩,
  ⟨7, .N .pick, [.l 4, .c (.bool true), .l 0], none, 0⟩] := Eq.trans rfl rfl
theorem er40_9 (φ : Nat → Nat) : r40_9 φ = [
  ⟨0, .N (.build [.int .i64 0, .nils] []), [], none, 0⟩,
  ⟨1, .X (.store 2), [.n 3, .l 0], none, 0⟩,
  ⟨2, .N .mv, [.c (.int .i64 4)], none, 0⟩] := Eq.trans rfl rfl
theorem er40_10 (φ : Nat → Nat) : r40_10 φ = [
  ⟨0, .N .mv, [.n 6], none, 0⟩,
  ⟨1, .N .mv, [.l 0], none, 0⟩,
  ⟨2, .N .load1, [.n 5], some (.l 0, false), 0⟩,
  ⟨3, .N .mv, [.n 8], some (.l 1, false), 0⟩,
  ⟨4, .N (.idx 1), [.l 1, .l 0], some (.l 2, false), 0⟩,
  ⟨5, .N .load1, [.l 0], some (.l 3, false), 0⟩,
  ⟨6, .N (.bin .gtr), [.l 0, .c (.int .i64 0)], some (.l 4, false), 0⟩,
  ⟨7, .N .pick, [.l 5, .c (.bool true), .l 0], none, 0⟩,
  ⟨8, .N .mv, [.l 0], none, 0⟩] := Eq.trans rfl rfl
theorem er40_11 (φ : Nat → Nat) : r40_11 φ = [
  ⟨0, .N .load1, [.n 5], none, 0⟩,
  ⟨1, .N .mv, [.n 8], none, 0⟩,
  ⟨2, .N .mv, [.n 7], none, 0⟩,
  ⟨3, .N (.bin .add), [.l 0, .c (.int .i64 1)], none, 0⟩,
  ⟨4, .N (.idx 1), [.l 3, .l 2], none, 0⟩,
  ⟨5, .X (.store 1), [.l 0, .l 1], none, 0⟩] := Eq.trans rfl rfl
theorem er40_12 (φ : Nat → Nat) : r40_12 φ = [
  ⟨0, .N (.bin .add), [.n 12, .c (.int .i64 1)], none, 0⟩,
  ⟨1, .N .mv, [.l 0], none, 0⟩] := Eq.trans rfl rfl
theorem er40_14 (φ : Nat → Nat) : r40_14 φ = [
  ⟨0, .N .mv, [.n 6], none, 0⟩] := Eq.trans rfl rfl
theorem er40_15 (φ : Nat → Nat) : r40_15 φ = [
  ⟨0, .N (.build [.int .i64 0, .nils] []), [], none, 0⟩,
  ⟨1, .X (.store 2), [.n 3, .l 0], none, 0⟩,
  ⟨2, .N .mv, [.c (.int .i64 1)], none, 0⟩] := Eq.trans rfl rfl
theorem er40_16 (φ : Nat → Nat) : r40_16 φ = [
  ⟨0, .N .mv, [.n 1], none, 0⟩,
  ⟨1, .N .lenS, [.l 0], none, 0⟩,
  ⟨2, .N (.mkfn (.func (φ 53)) 0), [.n 5], none, 0⟩,
  ⟨3, .N (.build [.int .i64 0, .nilf] [(0, 1), (1, 1)]), [.l 1, .l 0], none, 0⟩,
  ⟨4, .N (.loadN 2), [.n 2], none, 0⟩,
  ⟨5, .call (φ 54), [.l 1, .l 0], none, 0⟩,
  ⟨6, .N (.ext 0), [.l 0], none, 0⟩,
  ⟨7, .N (.ext 1), [.l 1], none, 0⟩,
  ⟨8, .X (.store 2), [.n 3, .l 1], none, 0⟩,
  ⟨9, .N .mv, [.l 1], none, 0⟩] := Eq.trans rfl rfl
def badI (n : Int) (x : Int) : Bool := decide (x < 0) || decide (n ≤ x)
def posI (xs : List Int) (x : Int) : Int := if x ∈ xs then (xs.idxOf x : Int) else -1
def inducedE (n : Int) (es : List Ed) (xs : List Int) : Int × List Ed × Int :=
  if rightE n es = false then (0, [], 1) else if xs.any (badI n) then (0, [], 4) else if ¬ xs.Nodup then (0, [], 1) else normalE xs.length (mapE (posI xs) es)
/-- Where each vertex was named. -/
def Pl (N : Nat) (ys : List Int) (c : List AV) : Prop := c.length = N ∧ ∃ p : Nat → Nat, (∀ v, v < N → c[v]? = some (.int .i64 (p v : Int))) ∧ (∀ v, v < N → (p v = 0 ↔ (v : Int) ∉ ys)) ∧ (∀ v, v < N → p v ≤ ys.length) ∧ (ys.Nodup → ∀ v, v < N → (v : Int) ∈ ys → p v = ys.idxOf (v : Int) + 1)
theorem pl_start (N : Nat) : Pl N [] (repA [.int .i64 0] N) := by
  refine ⟨by rw [repA_len]; simp, fun _ => 0, fun v hv => ?_, fun v hv => by simp, fun v hv => by simp, fun _ v hv h => by simp at h⟩
  rw [repA_repl, List.getElem?_replicate, if_pos hv]; rfl
theorem pl_add {N : Nat} {ys : List Int} {c : List AV} (h : Pl N ys c) {x : Nat} (hx : x < N) : Pl N (ys ++ [(x : Int)]) (c.set x (.int .i64 ((ys.length + 1 : Nat) : Int))) := by
  obtain ⟨h1, p, h2, h3, h4, h5⟩ := h
  obtain ⟨q, hq⟩ : ∃ q : Nat → Nat, ∀ v, q v = if v = x then ys.length + 1 else p v := ⟨_, fun _ => rfl⟩
  refine ⟨by simp [h1], q, fun v hv => ?_, fun v hv => ?_, fun v hv => ?_, fun hnd v hv hm => ?_⟩
  · rw [List.getElem?_set, h1]
    by_cases e : x = v
    · subst e; rw [hq, if_pos rfl, if_pos rfl, if_pos hx]
    · rw [if_neg e, hq, if_neg (fun h => e h.symm)]; exact h2 v hv
  · by_cases e : v = x
    · subst e; rw [hq, if_pos rfl]; simp
    · rw [hq, if_neg e, h3 v hv]
      have : ¬ (v : Int) = (x : Int) := by omega
      simp [this]
  · have := h4 v hv
    simp only [List.length_append, List.length_cons, List.length_nil]
    rw [hq]
    split <;> omega
  · rw [List.nodup_append] at hnd
    obtain ⟨n1, _, n2⟩ := hnd
    rw [List.idxOf_append]
    by_cases e : v = x
    · subst e
      have hni : (v : Int) ∉ ys := fun h => n2 _ h _ (by simp) rfl
      rw [hq, if_pos rfl, if_neg hni]; simp
    · rw [hq, if_neg e]
      have hvy : (v : Int) ∈ ys := by
        rcases List.mem_append.1 hm with h | h
        · exact h
        · simp at h; omega
      rw [if_pos hvy]
      exact h5 n1 v hv hvy
theorem w_Ind1 (h : Has A (φ 53) (f53 φ)) (x : Nat) (k N : Nat) (c : List AV) (H : Heap) (K : AV → Heap → Prop) (h3 : H[3]? = some (.cells 0 false [.sl 2 0 0 N 1 N true])) (h2 : H[2]? = some (.cells 0 false c)) (hc : c.length = N) (hx : x < N) (hN : N ≤ 1000)
    (hg : c[x]? = some (.int .i64 (k : Int))) (hk : k ≤ 1000000) (hK : K (.int .i64 ((k : Int) - 1)) H) : PCall A (φ 53) [.int .i64 x, .ptr 3 0 0] H K := by
  refine pcall_has h rfl ?_
  have hw : IntKind.i64.wrap ((k : Int) - 1) = (k : Int) - 1 := wrap_in (by omega) (by omega)
  have hx' : (x : Int) < (N : Int) := by omega
  have hxc : x + 1 ≤ c.length := by omega
  simp only [b53, f53]
  simp [-List.getD_eq_getElem?_getD, -Int.ofNat_toNat, -getElem?_pos, er53_0, er53_1, h3, h2, hg, hw, hx', hx, hxc, resK, resVs, resV, pack]
  exact hK
theorem nodup_snoc {ys : List Int} {x : Int} : (ys ++ [x]).Nodup ↔ ys.Nodup ∧ x ∉ ys := by
  rw [List.nodup_append]
  constructor
  · rintro ⟨h1, _, h2⟩; exact ⟨h1, fun h => h2 _ h _ (by simp) rfl⟩
  · rintro ⟨h1, h2⟩
    refine ⟨h1, by simp, fun a ha b hb e => ?_⟩
    simp at hb; subst hb; subst e; exact h2 ha
set_option maxHeartbeats 2000000 in
theorem w_Induced (h : Has A (φ 40) (f40 φ)) (h1 : Has A (φ 53) (f53 φ)) (h2 : Has A (φ 54) (f54 φ)) (hN : NormalC A (φ 1)) (hRc : RightC A (φ 4)) (n : Int) (v : AV) (es : List Ed) (hv : IsE v es) (lv : AV) (xs : List Int) (hl : IsI lv xs) (hxl : xs.length ≤ 100000) :
    PVal A (φ 40) [gV n v, lv] (gR (inducedE n es xs)) := by
  have hone := hv.one
  have hcl := hv.closed
  have hlen := hl.len
  have cR := (hRc n v es hv).eq
  have hnil : rE ([] : List Ed) = AV.nils := rfl
  refine pval_has h rfl ?_
  simp only [l40_13, b40, f40]
  by_cases hR : rightE n es = true
  · have hn := right_len hR
    have hrb := right_ends hR
    obtain ⟨N, rfl⟩ : ∃ N : Nat, n = (N : Int) := ⟨n.toNat, by omega⟩
    simp [hR] at cR
    simp [-List.getD_eq_getElem?_getD, -Int.ofNat_toNat, -getElem?_pos, er40_0, er40_1, er40_2, er40_3, er40_4, er40_5, er40_6, er40_7, er40_8, er40_9, er40_10, er40_11, er40_12, er40_14, er40_15, er40_16, hone, hcl, hlen, cR]
    refine ⟨by omega, ?_⟩
    refine pc_loopI (fun m st => ∃ (i : Nat) (c : List AV) (a7 a8 p13 p14 : AV), i + m = xs.length ∧ Pl N (xs.take i) c ∧ (∀ x ∈ xs.take i, badI N x = false) ∧
      st = ([gV N v, lv, .ptr 0 0 0, .ptr 1 0 0, .int .i64 0, .ptr 3 0 0, .bool (!decide (xs.take i).Nodup), a7, a8, .bool false, lv, .int .i64 xs.length, .int .i64 i, p13, p14, .un],
        [.cells 0 false [.int .i64 N, v], .cells 0 false [.int .i64 0, .nils], .cells 0 false c, .cells 0 false [.sl 2 0 0 N 1 N true]])) xs.length ⟨0, _, _, _, _, _, by simp, pl_start N, by simp, rfl⟩ ?_
    rintro m st ⟨i, c, a7, a8, p13, p14, hi, hP, hg, rfl⟩
    by_cases hlt : i < xs.length
    · have hlt' : (i : Int) < xs.length := by omega
      obtain ⟨i1, z1⟩ := hl.at hlt
      have hw1 := wrap1 hlt (by omega)
      have hts : xs.take (i + 1) = xs.take i ++ [xs[i]] := List.take_succ_eq_append_getElem hlt
      have hmem := List.getElem_mem hlt
      by_cases hb : badI N xs[i] = true
      · have hf : inducedE N es xs = (0, [], 4) := by
          unfold inducedE
          rw [if_neg (by simp [hR]), if_pos (List.any_eq_true.2 ⟨_, hmem, hb⟩)]
        simp only [badI, Bool.or_eq_true, decide_eq_true_eq] at hb
        by_cases q1 : xs[i] < 0
        · simp [-List.getD_eq_getElem?_getD, -Int.ofNat_toNat, -getElem?_pos, er40_0, er40_1, er40_2, er40_3, er40_4, er40_5, er40_6, er40_7, er40_8, er40_9, er40_10, er40_11, er40_12, er40_14, er40_15, er40_16, hlt', i1, z1, q1, hf, hnil, resK, resVs, resV, pack, viewG0]
        · have q2 : (N : Int) ≤ xs[i] := by omega
          simp [-List.getD_eq_getElem?_getD, -Int.ofNat_toNat, -getElem?_pos, er40_0, er40_1, er40_2, er40_3, er40_4, er40_5, er40_6, er40_7, er40_8, er40_9, er40_10, er40_11, er40_12, er40_14, er40_15, er40_16, hlt', i1, z1, q1, q2, hf, hnil, resK, resVs, resV, pack, viewG0]
      · simp only [Bool.not_eq_true] at hb
        have hb0 := hb
        simp only [badI, Bool.or_eq_false_iff, decide_eq_false_iff_not] at hb
        obtain ⟨q1, q2⟩ := hb
        obtain ⟨x, hx⟩ : ∃ x : Nat, xs[i] = (x : Int) := ⟨xs[i].toNat, by omega⟩
        rw [hx] at z1 hts
        have hxN : x < N := by omega
        have hxN' : (x : Int) < N := by omega
        have hx0 : ¬ (x : Int) < 0 := by omega
        have hxN2 : ¬ N ≤ x := by omega
        have hP' := pl_add hP hxN
        have hg' : ∀ y ∈ xs.take (i + 1), badI N y = false := by
          intro y hy
          rw [hts] at hy
          rcases List.mem_append.1 hy with h | h
          · exact hg y h
          · simp at h; subst h; rw [← hx]; exact hb0
        obtain ⟨hcl', p, p1, p2, p3, p4⟩ := hP
        have hpx := p1 x hxN
        have hxc : x + 1 ≤ c.length := by omega
        have hti : (xs.take i).length = i := by simp; omega
        rw [hti] at hP'
        have s1 := setAt_one (c := c) (o := x) (.int .i64 ((i : Int) + 1)) (by omega)
        rw [← hts] at hP'
        by_cases hnd : (xs.take i).Nodup
        · have hnn : (!decide (xs.take (i + 1)).Nodup) = decide (0 < p x) := by
            rw [hts, Bool.eq_iff_iff]
            simp only [Bool.not_eq_true', decide_eq_false_iff_not, decide_eq_true_eq, nodup_snoc]
            have := p2 x hxN
            constructor
            · intro h; rcases Nat.eq_zero_or_pos (p x) with h0 | h0
              · exact absurd ⟨hnd, this.1 h0⟩ h
              · exact h0
            · rintro h ⟨_, h3⟩
              have := this.2 h3; omega
          simp [-List.getD_eq_getElem?_getD, -Int.ofNat_toNat, -getElem?_pos, er40_0, er40_1, er40_2, er40_3, er40_4, er40_5, er40_6, er40_7, er40_8, er40_9, er40_10, er40_11, er40_12, er40_14, er40_15, er40_16, hlt', i1, z1, hx0, hxN', hxN2, hxN, hnd, hpx, hxc, hw1, s1]
          refine next_mk (m - 1) (by omega) ⟨i + 1, _, .int .i64 i, .int .i64 x, .bool true, .bool false, by omega, hP', hg', by rw [hnn]; rfl⟩
        · have hnn : (!decide (xs.take (i + 1)).Nodup) = true := by
            rw [hts]
            simp only [Bool.not_eq_true', decide_eq_false_iff_not, nodup_snoc]
            exact fun h => hnd h.1
          simp [-List.getD_eq_getElem?_getD, -Int.ofNat_toNat, -getElem?_pos, er40_0, er40_1, er40_2, er40_3, er40_4, er40_5, er40_6, er40_7, er40_8, er40_9, er40_10, er40_11, er40_12, er40_14, er40_15, er40_16, hlt', i1, z1, hx0, hxN', hxN2, hxN, hnd, hpx, hxc, hw1, s1]
          refine next_mk (m - 1) (by omega) ⟨i + 1, _, .int .i64 i, .int .i64 x, .bool true, .bool false, by omega, hP', hg', by rw [hnn]; rfl⟩
    · have hlt' : ¬ (i : Int) < xs.length := by omega
      have htk : xs.take i = xs := List.take_of_length_le (by omega)
      rw [htk] at hP hg
      have hany : xs.any (badI N) = false := by
        rw [List.any_eq_false]
        intro x hx; rw [hg x hx]; simp
      obtain ⟨hcl', p, p1, p2, p3, p4⟩ := hP
      by_cases hnd : xs.Nodup
      · have hf : inducedE N es xs = normalE xs.length (mapE (posI xs) es) := by
          unfold inducedE
          rw [if_neg (by simp [hR]), if_neg (by simp [hany]), if_neg (by simp [hnd])]
        have hpos : ∀ x : Nat, x < N → (p x : Int) - 1 = posI xs x := by
          intro x hx
          unfold posI
          by_cases hm : (x : Int) ∈ xs
          · rw [if_pos hm, p4 hnd x hx hm]; omega
          · rw [if_neg hm, (p2 x hx).2 hm]; rfl
        simp [-List.getD_eq_getElem?_getD, -Int.ofNat_toNat, -getElem?_pos, er40_0, er40_1, er40_2, er40_3, er40_4, er40_5, er40_6, er40_7, er40_8, er40_9, er40_10, er40_11, er40_12, er40_14, er40_15, er40_16, hlt', htk, hnd, hlen, hone]
        refine w_renamed h2 hN (posI xs) (φ 53) (.ptr 3 0 0) xs.length N v es hv hn.2.2 _ rfl (fun e he x hx H' K' hsame hK => ?_) (fun H' hsame hle => ?_)
        · have he' := hrb e he
          obtain ⟨y, rfl⟩ : ∃ y : Nat, x = (y : Int) := ⟨x.toNat, by omega⟩
          have hyN : y < N := by omega
          have := p3 y hyN
          refine w_Ind1 h1 y (p y) N c H' K' ?_ ?_ hcl' hyN (by omega) (p1 y hyN) (by omega) ?_
          · rw [hsame 3 (by simp)]; rfl
          · rw [hsame 2 (by simp)]; rfl
          · rw [hpos y hyN]; exact hK
        · have b1 : H'[1]? = some (.cells 0 false [.int .i64 0, .nils]) := by rw [hsame 1 (by simp)]; rfl
          have hset : ∀ z, (H'.set 1 z)[1]? = some z := fun z => List.getElem?_set_self (lt_of_get b1)
          simp only [hid_k, nR]
          rw [hf]
          generalize normalE xs.length (mapE (posI xs) es) = y at *
          have iy := isE_r y.2.1
          simp [-List.getD_eq_getElem?_getD, -Int.ofNat_toNat, -getElem?_pos, er40_0, er40_1, er40_2, er40_3, er40_4, er40_5, er40_6, er40_7, er40_8, er40_9, er40_10, er40_11, er40_12, er40_14, er40_15, er40_16, b1, hset, iy.one, iy.cells, iy.closed, resK, resVs, resV, pack]
      · have hf : inducedE N es xs = (0, [], 1) := by
          unfold inducedE
          rw [if_neg (by simp [hR]), if_neg (by simp [hany]), if_pos hnd]
        simp [-List.getD_eq_getElem?_getD, -Int.ofNat_toNat, -getElem?_pos, er40_0, er40_1, er40_2, er40_3, er40_4, er40_5, er40_6, er40_7, er40_8, er40_9, er40_10, er40_11, er40_12, er40_14, er40_15, er40_16, hlt', htk, hnd, hf, hnil, resK, resVs, resV, pack, viewG0]
  · simp only [Bool.not_eq_true] at hR
    have hf : inducedE n es xs = (0, [], 1) := by unfold inducedE; rw [if_pos hR]
    simp [hR] at cR
    simp [-List.getD_eq_getElem?_getD, -Int.ofNat_toNat, -getElem?_pos, er40_0, er40_1, er40_2, er40_3, er40_4, er40_5, er40_6, er40_7, er40_8, er40_9, er40_10, er40_11, er40_12, er40_14, er40_15, er40_16, hone, hcl, cR, hf, hnil, resK, resVs, resV, pack, viewG0]
end Go.Ai.G
/- The reference's Induced. -/
namespace Go.Ai.G
open Go.Ai
set_option maxRecDepth 100000
set_option linter.unusedSimpArgs false
set_option linter.unusedVariables false
variable {A : AProg} {φ : Nat → Nat}
attribute [local simp ↓] getD_z getD_s hid_k hid_o hid_q hid_v PO_nil PO_none PO_grd PD_nil PD_none PD_grd PDO_N PDO_X PDO_call PDO_calli PDO_callv PStep_N PStep_X PStep_call PStep_calli PC_skip PC_lab
  PC_ret PC_exit PC_reg PC_draw PC_seq PC_block PC_loop PC_scope PC_cond thenC_norm thenC_ret thenC_exit blockC_norm blockC_ret blockC_exit loopC_norm loopC_ret loopC_exit endR_ret
  endR_norm
attribute [local simp] gz PDX_free PDX_eq PStep_callv resK_none resK_t resK_tt KNO_val KNO_new KNO_ite KNO_map KXO_some KXO_ite KVA_t KVA_f KG_skip KG_tt KG_ff KG_tf KG_ft KB_true KB_false KNOD_val
  KNOD_new KNOD_ite n_mv n_pick n_bin n_eqB n_eqN n_eqS n_un n_conv n_fadd n_faddV n_fld1 n_fldN n_idx n_idxA n_idxV n_idxAV n_ext n_lenS n_lenS0 n_lenV n_lenT n_lenA n_min n_max
  n_build n_mkfn n_slc n_slc0 n_slcV n_slcA n_load1 n_loadN n_load1V n_loadNV n_alloc n_box n_bsl n_mksl n_nilcP n_nilcV n_nilcI n_nilcF x_store x_clear0 x_clear b_add b_sub b_mul
  b_eql b_neq b_lss b_leq b_gtr b_geq b_and16 unV ntouch gather hide unhide evalOpd applyOuts int_bne int_beq ite_bool ite_int one_bool cells_bool one_int cells_int one_str cells_str
  one_nilp cells_nilp one_ptr cells_ptr one_nils cells_nils one_sl cells_sl one_nilf cells_nilf one_fn cells_fn one_nili cells_nili one_mp cells_mp one_nilm cells_nilm one_iface
  cells_iface one_vs cells_vs one_vp cells_vp cells_agg Nat.testBit setAt_1 setAt_2 closeds_nil closeds_cons closed_bool closed_int closed_str closed_nilp closed_nils closed_nilm
  closed_nilf closed_nili closed_agg closed_tup closed_vs closed_vp closed_iface closed_fn closeds_cI closeds_cE viewA_closed viewR_closed AV.scal AV.scal0 fillA repA part_bool
  part_int part_str part_nilp part_ptr part_nils part_sl part_nilm part_mp part_nilf part_fn part_nili part_iface part_agg part_vs part_vp viewA_sl1 vaSl_cells wrap_0 wrap_1 wrap_2
  wrap_m1 set_last get_last
theorem er55_0 (φ : Nat → Nat) : r55_0 φ = [
  ⟨0, .N .mv, [.c (.bool false)], none, 0⟩] := Eq.trans rfl rfl
theorem er55_1 (φ : Nat → Nat) : r55_1 φ = [
  ⟨0, .N .mv, [.c (.int .i64 0)], none, 0⟩] := Eq.trans rfl rfl
theorem er55_2 (φ : Nat → Nat) : r55_2 φ = [
  ⟨0, .N .mv, [.n 2], none, 0⟩,
  ⟨1, .N .mv, [.n 0], none, 0⟩,
  ⟨2, .N .lenS, [.l 0], none, 0⟩,
  ⟨3, .N (.bin .lss), [.l 2, .l 0], none, 0⟩] := Eq.trans rfl rfl
theorem er55_3 (φ : Nat → Nat) : r55_3 φ = [
  ⟨0, .N .mv, [.c (.int .i64 0)], none, 0⟩] := Eq.trans rfl rfl
theorem er55_4 (φ : Nat → Nat) : r55_4 φ = [
  ⟨0, .N .mv, [.n 3], none, 0⟩,
  ⟨1, .N .mv, [.n 2], none, 0⟩,
  ⟨2, .N (.bin .lss), [.l 1, .l 0], none, 0⟩] := Eq.trans rfl rfl
theorem er55_5 (φ : Nat → Nat) : r55_5 φ = [
  ⟨0, .N .mv, [.n 0], none, 0⟩,
  ⟨1, .N .mv, [.n 2], none, 0⟩,
  ⟨2, .N (.idx 1), [.l 1, .l 0], none, 3⟩,
  ⟨3, .N .load1, [.l 0], none, 7⟩,
  ⟨4, .N .mv, [.n 0], none, 0⟩,
  ⟨5, .N .mv, [.n 3], none, 0⟩,
  ⟨6, .N (.idx 1), [.l 1, .l 0], none, 48⟩,
  ⟨7, .N .load1, [.l 0], none, 112⟩,
  ⟨8, .N (.bin .eql), [.l 4, .l 0], none, 255⟩] := Eq.trans rfl rfl
theorem er55_6 (φ : Nat → Nat) : r55_6 φ = [
  ⟨0, .N .mv, [.c (.bool false)], none, 0⟩] := Eq.trans rfl rfl
theorem er55_7 (φ : Nat → Nat) : r55_7 φ = [
  ⟨0, .N .mv, [.n 3], none, 0⟩,
  ⟨1, .N (.bin .add), [.l 0, .c (.int .i64 1)], none, 0⟩,
  ⟨2, .N .mv, [.l 0], none, 0⟩] := Eq.trans rfl rfl
theorem er55_9 (φ : Nat → Nat) : r55_9 φ = [
  ⟨0, .N .mv, [.n 2], none, 0⟩,
  ⟨1, .N (.bin .add), [.l 0, .c (.int .i64 1)], none, 0⟩,
  ⟨2, .N .mv, [.l 0], none, 0⟩] := Eq.trans rfl rfl
theorem er55_11 (φ : Nat → Nat) : r55_11 φ = [
  ⟨0, .N .mv, [.c (.bool true)], none, 0⟩] := Eq.trans rfl rfl
theorem er41_0 (φ : Nat → Nat) : r41_0 φ = [
  ⟨0, .N .box, [.n 0], none, 0⟩,
  ⟨1, .N (.alloc [.int .i64 0, .nils]), [], none, 0⟩,
  ⟨2, .N .mv, [.c (.int .i64 0)], none, 0⟩] := Eq.trans rfl rfl
theorem er41_1 (φ : Nat → Nat) : r41_1 φ = [
  ⟨0, .N (.loadN 2), [.n 2], none, 0⟩,
  ⟨1, .calli true (φ 6), [.l 0], none, 0⟩,
  ⟨2, .N (.un .not), [.l 0], none, 0⟩] := Eq.trans rfl rfl
theorem er41_2 (φ : Nat → Nat) : r41_2 φ = [
  ⟨0, .N (.build [.int .i64 0, .nils] []), [], none, 0⟩,
  ⟨1, .X (.store 2), [.n 3, .l 0], none, 0⟩,
  ⟨2, .N .mv, [.c (.int .i64 1)], none, 0⟩] := Eq.trans rfl rfl
theorem er41_3 (φ : Nat → Nat) : r41_3 φ = [
  ⟨0, .N .mv, [.c (.int .i64 0)], none, 0⟩] := Eq.trans rfl rfl
theorem er41_4 (φ : Nat → Nat) : r41_4 φ = [
  ⟨0, .N .mv, [.n 5], none, 0⟩,
  ⟨1, .N .mv, [.n 1], none, 0⟩,
  ⟨2, .N .lenS, [.l 0], none, 0⟩,
  ⟨3, .N (.bin .lss), [.l 2, .l 0], none, 0⟩] := Eq.trans rfl rfl
theorem er41_5 (φ : Nat → Nat) : r41_5 φ = [
  ⟨0, .N .mv, [.n 1], none, 0⟩,
  ⟨1, .N .mv, [.n 5], none, 0⟩,
  ⟨2, .N (.idx 1), [.l 1, .l 0], none, 3⟩,
  ⟨3, .N .load1, [.l 0], none, 7⟩,
  ⟨4, .N (.bin .lss), [.l 0, .c (.int .i64 0)], none, 15⟩,
  ⟨5, .N .mv, [.l 0], none, 31⟩,
  ⟨6, .N .mv, [.n 1], some (.l 0, false), 63⟩,
  ⟨7, .N .mv, [.n 5], some (.l 1, false), 63⟩,
  ⟨8, .N (.idx 1), [.l 1, .l 0], some (.l 2, false), 255⟩,
  ⟨9, .N .load1, [.l 0], some (.l 3, false), 511⟩,
  ⟨10, .N (.fadd 0), [.n 2], some (.l 4, false), 63⟩,
  ⟨11, .N .load1, [.l 0], some (.l 5, false), 1087⟩,
  ⟨12, .N (.bin .geq), [.l 2, .l 0], some (.l 6, false), 4095⟩,
  ⟨13, .N .pick, [.l 7, .c (.bool true), .l 0], none, 8191⟩] := Eq.trans rfl rfl
theorem er41_6 (φ : Nat → Nat) : r41_6 φ = [
  ⟨0, .N (.build [.int .i64 0, .nils] []), [], none, 0⟩,
  ⟨1, .X (.store 2), [.n 3, .l 0], none, 0⟩,
  ⟨2, .N .mv, [.c (.int .i64 4)], none, 0⟩] := Eq.trans rfl rfl
theorem er41_7 (φ : Nat → Nat) : r41_7 φ = [
  ⟨0, .N .mv, [.n 5], none, 0⟩,
  ⟨1, .N (.bin .add), [.l 0, .c (.int .i64 1)], none, 0⟩,
  ⟨2, .N .mv, [.l 0], none, 0⟩] := Eq.trans rfl rfl
theorem er41_9 (φ : Nat → Nat) : r41_9 φ = [
  ⟨0, .N .mv, [.n 1], none, 0⟩,
  ⟨1, .calli true (φ 55), [.l 0], none, 0⟩,
  ⟨2, .N (.un .not), [.l 0], none, 0⟩] := Eq.trans rfl rfl
theorem er41_10 (φ : Nat → Nat) : r41_10 φ = [
  ⟨0, .N (.build [.int .i64 0, .nils] []), [], none, 0⟩,
  ⟨1, .X (.store 2), [.n 3, .l 0], none, 0⟩,
  ⟨2, .N .mv, [.c (.int .i64 1)], none, 0⟩] := Eq.trans rfl rfl
theorem er41_11 (φ : Nat → Nat) : r41_11 φ = [
  ⟨0, .N .mv, [.n 1], none, 0⟩,
  ⟨1, .N .lenS, [.l 0], none, 0⟩,
  ⟨2, .N (.build [.int .i64 0, .nils] [(0, 1)]), [.l 0], none, 0⟩,
  ⟨3, .N (.alloc [.int .i64 0, .nils]), [], none, 0⟩,
  ⟨4, .X (.store 2), [.l 0, .l 1], none, 0⟩] := Eq.trans rfl rfl
theorem er41_12 (φ : Nat → Nat) : r41_12 φ = [
  ⟨0, .N .mv, [.c (.int .i64 0)], none, 0⟩] := Eq.trans rfl rfl
theorem er41_13 (φ : Nat → Nat) : r41_13 φ = [
  ⟨0, .N .mv, [.n 7], none, 0⟩,
  ⟨1, .N .mv, [.n 1], none, 0⟩,
  ⟨2, .N .lenS, [.l 0], none, 0⟩,
  ⟨3, .N (.bin .lss), [.l 2, .l 0], none, 0⟩] := Eq.trans rfl rfl
theorem er41_14 (φ : Nat → Nat) : r41_14 φ = [
  ⟨0, .N .mv, [.n 7], none, 0⟩,
  ⟨1, .N (.bin .add), [.l 0, .c (.int .i64 1)], none, 0⟩,
  ⟨2, .N .mv, [.l 0], none, 0⟩] := Eq.trans rfl rfl
theorem er41_15 (φ : Nat → Nat) : r41_15 φ = [
  ⟨0, .N .mv, [.n 8], none, 0⟩,
  ⟨1, .N .mv, [.n 1], none, 0⟩,
  ⟨2, .N .lenS, [.l 0], none, 0⟩,
  ⟨3, .N (.bin .lss), [.l 2, .l 0], none, 0⟩] := Eq.trans rfl rfl
theorem er41_16 (φ : Nat → Nat) : r41_16 φ = [
  ⟨0, .N (.loadN 2), [.n 2], none, 0⟩,
  ⟨1, .N .mv, [.n 1], none, 0⟩,
  ⟨2, .N .mv, [.n 7], none, 0⟩,
  ⟨3, .N (.idx 1), [.l 1, .l 0], none, 6⟩,
  ⟨4, .N .load1, [.l 0], none, 14⟩,
  ⟨5, .N .mv, [.n 1], none, 0⟩,
  ⟨6, .N .mv, [.n 8], none, 0⟩,
  ⟨7, .N (.idx 1), [.l 1, .l 0], none, 96⟩,
  ⟨8, .N .load1, [.l 0], none, 224⟩,
  ⟨9, .calli true (φ 8), [.l 8, .l 4, .l 0], none, 511⟩] := Eq.trans rfl rfl
theorem er41_17 (φ : Nat → Nat) : r41_17 φ = [
  ⟨0, .N (.fadd 1), [.n 6], none, 0⟩,
  ⟨1, .N .load1, [.l 0], none, 0⟩,
  ⟨2, .N .mv, [.n 7], none, 0⟩,
  ⟨3, .N .mv, [.n 8], none, 0⟩,
  ⟨4, .N (.build [.int .i64 0, .int .i64 0] [(0, 1), (1, 1)]), [.l 1, .l 0], none, 0⟩,
  ⟨5, .N (.bsl [.int .i64 0, .int .i64 0] 1 2 [(0, 2)]), [.l 0], none, 0⟩,
  ⟨6, .X (.app 2 16), [.l 4, .l 0], none, 0⟩,
  ⟨7, .N (.fadd 1), [.n 6], none, 0⟩,
  ⟨8, .X (.store 1), [.l 0, .l 1], none, 0⟩] := Eq.trans rfl rfl
theorem er41_18 (φ : Nat → Nat) : r41_18 φ = [
  ⟨0, .N .mv, [.n 8], none, 0⟩,
  ⟨1, .N (.bin .add), [.l 0, .c (.int .i64 1)], none, 0⟩,
  ⟨2, .N .mv, [.l 0], none, 0⟩] := Eq.trans rfl rfl
theorem er41_20 (φ : Nat → Nat) : r41_20 φ = [
  ⟨0, .N .mv, [.n 7], none, 0⟩,
  ⟨1, .N (.bin .add), [.l 0, .c (.int .i64 1)], none, 0⟩,
  ⟨2, .N .mv, [.l 0], none, 0⟩] := Eq.trans rfl rfl
theorem er41_22 (φ : Nat → Nat) : r41_22 φ = [
  ⟨0, .N (.loadN 2), [.n 6], none, 0⟩,
  ⟨1, .X (.store 2), [.n 3, .l 0], none, 0⟩,
  ⟨2, .N .mv, [.c (.int .i64 0)], none, 0⟩] := Eq.trans rfl rfl
theorem w_Unlike (h : Has A (φ 55) (f55 φ)) (lv : AV) (xs : List Int) (hl : IsI lv xs) (hn : xs.length < 1000000) : PVal A (φ 55) [lv] (.bool (decide xs.Nodup)) := by
  have hlen := hl.len
  refine pval_has h rfl ?_
  simp only [l55_8, l55_10, b55, f55]
  simp [-List.getD_eq_getElem?_getD, -Int.ofNat_toNat, -getElem?_pos, er55_0, er55_1, er55_2, er55_3, er55_4, er55_5, er55_6, er55_7, er55_9, er55_11]
  refine pc_loopI (fun m st => ∃ (i : Nat) (k p q r : AV), i + m = xs.length ∧ (xs.take i).Nodup ∧ st = ([lv, .bool false, .int .i64 i, k, p, q, r], [])) xs.length ⟨0, _, _, _, _, by simp, by simp, rfl⟩ ?_
  rintro m st ⟨i, k, p, q, r0, hi, hnd, rfl⟩
  by_cases hlt : i < xs.length
  · have hlt' : (i : Int) < xs.length := by omega
    have hw1 := wrap1 hlt (by omega)
    obtain ⟨i1, z1⟩ := hl.at hlt
    have hts : xs.take (i + 1) = xs.take i ++ [xs[i]] := List.take_succ_eq_append_getElem hlt
    simp [-List.getD_eq_getElem?_getD, -Int.ofNat_toNat, -getElem?_pos, er55_0, er55_1, er55_2, er55_3, er55_4, er55_5, er55_6, er55_7, er55_9, er55_11, hlen, hlt']
    refine pc_loopI (fun m2 st => ∃ (k : Nat) (q r : AV), k + m2 = i ∧ (∀ j (h : j < xs.length), j < k → ¬ xs[i] = xs[j]) ∧ st = ([lv, .bool false, .int .i64 i, .int .i64 k, .bool true, q, r], [])) i ⟨0, _, _, by simp, by simp, rfl⟩ ?_
    rintro m2 st2 ⟨k, q, r, hk, hne, rfl⟩
    by_cases hki : k < i
    · have hki' : (k : Int) < (i : Int) := by omega
      have hkl : k < xs.length := by omega
      obtain ⟨i2, z2⟩ := hl.at hkl
      have hw2 := wrap1 hkl (by omega)
      by_cases he : xs[i] = xs[k]
      · have hno : ¬ xs.Nodup := fun h => by
          have := List.pairwise_iff_getElem.1 h k i hkl hlt hki
          exact this he.symm
        simp [-List.getD_eq_getElem?_getD, -Int.ofNat_toNat, -getElem?_pos, er55_0, er55_1, er55_2, er55_3, er55_4, er55_5, er55_6, er55_7, er55_9, er55_11, hki, hki', i1, i2, z1, z2, he, hno, resK, resVs, resV, pack]
      · simp [-List.getD_eq_getElem?_getD, -Int.ofNat_toNat, -getElem?_pos, er55_0, er55_1, er55_2, er55_3, er55_4, er55_5, er55_6, er55_7, er55_9, er55_11, hki, hki', i1, i2, z1, z2, he, hw2]
        refine next_mk (m2 - 1) (by omega) ⟨k + 1, _, _, by omega, fun j h hj => ?_, rfl⟩
        rcases Nat.lt_or_ge j k with h' | h'
        · exact hne j h h'
        · have : j = k := by omega
          subst this; exact he
    · have hki' : ¬ (k : Int) < (i : Int) := by omega
      have hni : xs[i] ∉ xs.take i := by
        intro hm
        obtain ⟨j, hj, e⟩ := List.getElem_of_mem hm
        rw [List.getElem_take] at e
        have hj' : j < i := by simp at hj; omega
        exact hne j (by omega) (by omega) e.symm
      simp [-List.getD_eq_getElem?_getD, -Int.ofNat_toNat, -getElem?_pos, er55_0, er55_1, er55_2, er55_3, er55_4, er55_5, er55_6, er55_7, er55_9, er55_11, hki, hki', hw1]
      exact next_mk (m - 1) (by omega) ⟨i + 1, _, _, _, _, by omega, by rw [hts]; exact nodup_snoc.2 ⟨hnd, hni⟩, rfl⟩
  · have hlt' : ¬ (i : Int) < xs.length := by omega
    rw [List.take_of_length_le (by omega)] at hnd
    simp [-List.getD_eq_getElem?_getD, -Int.ofNat_toNat, -getElem?_pos, er55_0, er55_1, er55_2, er55_3, er55_4, er55_5, er55_6, er55_7, er55_9, er55_11, hlen, hlt', hnd, resK, resVs, resV, pack]
/-- The edges of the first a vertices with those behind them, and of the vertex a with those before b. -/
def rowE (f : Nat → Nat → Bool) (a b : Nat) : List Ed := ((List.range b).filter fun j => decide (a < j) && f a j).map fun (j : Nat) => ((a : Int), (j : Int))
def accE (f : Nat → Nat → Bool) (L a b : Nat) : List Ed := ((List.range a).flatMap fun i => rowE f i L) ++ rowE f a b
theorem rowE_snoc (f : Nat → Nat → Bool) (a b : Nat) : rowE f a (b + 1) = rowE f a b ++ (if a < b ∧ f a b = true then [((a : Int), (b : Int))] else []) := by
  simp only [rowE, List.range_succ, List.filter_append, List.map_append]
  congr 1
  by_cases h1 : a < b <;> cases h2 : f a b <;> simp [h1, h2]
theorem rowE_low (f : Nat → Nat → Bool) (a : Nat) : rowE f a (a + 1) = [] := by
  simp only [rowE, List.map_eq_nil_iff, List.filter_eq_nil_iff, List.mem_range]
  intro j hj; simp; intro h; omega
theorem rowE_nil (f : Nat → Nat → Bool) {a b : Nat} (h : b ≤ a + 1) : rowE f a b = [] := by
  simp only [rowE, List.map_eq_nil_iff, List.filter_eq_nil_iff, List.mem_range]
  intro j hj; simp; intro h; omega
theorem rowE_len (f : Nat → Nat → Bool) (a b : Nat) : (rowE f a b).length ≤ b := by
  simp only [rowE, List.length_map]
  exact Nat.le_trans (List.length_filter_le _ _) (by simp)
theorem accE_step (f : Nat → Nat → Bool) (L a : Nat) : accE f L (a + 1) (a + 2) = accE f L a L := by
  simp only [accE, List.range_succ, List.flatMap_append, List.flatMap_cons, List.flatMap_nil, List.append_nil, rowE_low]
theorem accE_len (f : Nat → Nat → Bool) (L : Nat) : ∀ a b : Nat, b ≤ L → (accE f L a b).length ≤ (a + 1) * L
  | 0, b, hb => by simp [accE]; exact Nat.le_trans (rowE_len f 0 b) hb
  | a + 1, b, hb => by
    have := accE_len f L a L (Nat.le_refl _)
    have e : accE f L (a + 1) b = accE f L a L ++ rowE f (a + 1) b := by
      simp only [accE, List.range_succ, List.flatMap_append, List.flatMap_cons, List.flatMap_nil, List.append_nil, List.append_assoc]
    rw [e, List.length_append]
    have h2 := rowE_len f (a + 1) b
    have : (a + 1 + 1) * L = (a + 1) * L + L := by rw [Nat.add_mul]; omega
    omega
def refIndE (n : Int) (es : List Ed) (xs : List Int) : Int × List Ed × Int :=
  if rightE n es = false then (0, [], 1) else if xs.any (badI n) then (0, [], 4) else if ¬ xs.Nodup then (0, [], 1) else ((xs.length : Int), accE (fun a b => hasE n es (xs.getD a 0) (xs.getD b 0)) xs.length xs.length xs.length, 0)
set_option maxHeartbeats 2000000 in
theorem w_RInduced (h : Has A (φ 41) (f41 φ)) (hRc : RightC A (φ 6)) (hU : ∀ lv xs, IsI lv xs → xs.length < 1000000 → PVal A (φ 55) [lv] (.bool (decide xs.Nodup))) (hH : ∀ n a b v es, IsE v es → PVal A (φ 8) [gV n v, .int .i64 a, .int .i64 b] (.bool (hasE n es a b)))
    (n : Int) (v : AV) (es : List Ed) (hv : IsE v es) (lv : AV) (xs : List Int) (hl : IsI lv xs) (hxl : xs.length ≤ 1000) :
    PVal A (φ 41) [gV n v, lv] (gR (refIndE n es xs)) := by
  have hone := hv.one
  have hcl := hv.closed
  have hlen := hl.len
  have hlc := hl.closed
  have cR := (hRc n v es hv).eq
  have cU := (hU lv xs hl (by omega)).eq
  have hnil : rE ([] : List Ed) = AV.nils := rfl
  refine pval_has h rfl ?_
  simp only [l41_8, l41_19, l41_21, b41, f41]
  by_cases hR : rightE n es = true
  · simp [hR] at cR
    simp [-List.getD_eq_getElem?_getD, -Int.ofNat_toNat, -getElem?_pos, er41_0, er41_1, er41_2, er41_3, er41_4, er41_5, er41_6, er41_7, er41_9, er41_10, er41_11, er41_12, er41_13, er41_14, er41_15, er41_16, er41_17, er41_18, er41_20, er41_22, hone, hcl, cR]
    refine pc_loopI (fun m st => ∃ (i : Nat) (p10 p11 : AV), i + m = xs.length ∧ (∀ x ∈ xs.take i, badI n x = false) ∧
      st = ([gV n v, lv, .ptr 0 0 0, .ptr 1 0 0, .int .i64 0, .int .i64 i, .un, .un, .un, .bool false, p10, p11, .un, .un, .un, .un],
        [.cells 0 false [.int .i64 n, v], .cells 0 false [.int .i64 0, .nils]])) xs.length ⟨0, _, _, by simp, by simp, rfl⟩ ?_
    rintro m st ⟨i, p10, p11, hi, hg, rfl⟩
    by_cases hlt : i < xs.length
    · have hlt' : (i : Int) < xs.length := by omega
      obtain ⟨i1, z1⟩ := hl.at hlt
      have hw1 := wrap1 hlt (by omega)
      have hts : xs.take (i + 1) = xs.take i ++ [xs[i]] := List.take_succ_eq_append_getElem hlt
      have hmem := List.getElem_mem hlt
      by_cases hb : badI n xs[i] = true
      · have hf : refIndE n es xs = (0, [], 4) := by
          unfold refIndE
          rw [if_neg (by simp [hR]), if_pos (List.any_eq_true.2 ⟨_, hmem, hb⟩)]
        simp only [badI, Bool.or_eq_true, decide_eq_true_eq] at hb
        by_cases q1 : xs[i] < 0
        · simp [-List.getD_eq_getElem?_getD, -Int.ofNat_toNat, -getElem?_pos, er41_0, er41_1, er41_2, er41_3, er41_4, er41_5, er41_6, er41_7, er41_9, er41_10, er41_11, er41_12, er41_13, er41_14, er41_15, er41_16, er41_17, er41_18, er41_20, er41_22, hlen, hlt', i1, z1, q1, hf, hnil, resK, resVs, resV, pack, viewG0]
        · have q2 : n ≤ xs[i] := by omega
          simp [-List.getD_eq_getElem?_getD, -Int.ofNat_toNat, -getElem?_pos, er41_0, er41_1, er41_2, er41_3, er41_4, er41_5, er41_6, er41_7, er41_9, er41_10, er41_11, er41_12, er41_13, er41_14, er41_15, er41_16, er41_17, er41_18, er41_20, er41_22, hlen, hlt', i1, z1, q1, q2, hf, hnil, resK, resVs, resV, pack, viewG0]
      · simp only [Bool.not_eq_true] at hb
        have hb0 := hb
        simp only [badI, Bool.or_eq_false_iff, decide_eq_false_iff_not] at hb
        obtain ⟨q1, q2⟩ := hb
        simp [-List.getD_eq_getElem?_getD, -Int.ofNat_toNat, -getElem?_pos, er41_0, er41_1, er41_2, er41_3, er41_4, er41_5, er41_6, er41_7, er41_9, er41_10, er41_11, er41_12, er41_13, er41_14, er41_15, er41_16, er41_17, er41_18, er41_20, er41_22, hlen, hlt', i1, z1, q1, q2, hw1]
        refine next_mk (m - 1) (by omega) ⟨i + 1, _, _, by omega, fun y hy => ?_, rfl⟩
        rw [hts] at hy
        rcases List.mem_append.1 hy with h | h
        · exact hg y h
        · simp at h; subst h; exact hb0
    · have hlt' : ¬ (i : Int) < xs.length := by omega
      rw [List.take_of_length_le (by omega)] at hg
      have hany : xs.any (badI n) = false := by
        rw [List.any_eq_false]
        intro x hx; rw [hg x hx]; simp
      by_cases hnd : xs.Nodup
      · have hf : refIndE n es xs = ((xs.length : Int), accE (fun a b => hasE n es (xs.getD a 0) (xs.getD b 0)) xs.length xs.length xs.length, 0) := by
          unfold refIndE
          rw [if_neg (by simp [hR]), if_neg (by simp [hany]), if_neg (by simp [hnd])]
        rw [hf]
        simp [hnd] at cU
        simp [-List.getD_eq_getElem?_getD, -Int.ofNat_toNat, -getElem?_pos, er41_0, er41_1, er41_2, er41_3, er41_4, er41_5, er41_6, er41_7, er41_9, er41_10, er41_11, er41_12, er41_13, er41_14, er41_15, er41_16, er41_17, er41_18, er41_20, er41_22, hlen, hlt', hlc, cU]
        have hFd : ∀ (a b : Nat) (ha : a < xs.length) (hb : b < xs.length), hasE n es (xs.getD a 0) (xs.getD b 0) = hasE n es xs[a] xs[b] := fun a b ha hb => by
          rw [List.getD_eq_getElem?_getD, List.getD_eq_getElem?_getD, List.getElem?_eq_getElem ha, List.getElem?_eq_getElem hb]; rfl
        generalize hfe : (fun a b : Nat => hasE n es (xs.getD a 0) (xs.getD b 0)) = F at *
        have hF : ∀ (a b : Nat) (ha : a < xs.length) (hb : b < xs.length), hasE n es xs[a] xs[b] = F a b := fun a b ha hb => by rw [← hFd a b ha hb, ← hfe]
        refine pc_loopI (fun m st => ∃ (a : Nat) (o b p13 p14 p15 : AV) (H : Heap), a + m = xs.length ∧ OwnE true 3 H o (accE F xs.length a (a + 1)) ∧ H[0]? = some (.cells 0 false [.int .i64 n, v]) ∧ H[1]? = some (.cells 0 false [.int .i64 0, .nils]) ∧ H[2]? = some (.cells 0 false [.int .i64 xs.length, o]) ∧
          st = ([gV n v, lv, .ptr 0 0 0, .ptr 1 0 0, .int .i64 0, .int .i64 i, .ptr 2 0 0, .int .i64 a, b, .bool false, .bool false, p11, .bool false, p13, p14, p15], H)) xs.length
          ⟨0, _, _, _, _, _, _, by simp, by rw [show accE F xs.length 0 (0 + 1) = [] by simp [accE, rowE_nil]]; exact own_nil _ _ _, rfl, rfl, rfl, rfl⟩ ?_
        rintro m st ⟨a, o, b0, p13, p14, p15, H, ha, ho, e0, e1, e2, rfl⟩
        by_cases hal : a < xs.length
        · have hal' : (a : Int) < xs.length := by omega
          have haw := wrap1 hal (by omega)
          obtain ⟨ia, za⟩ := hl.at hal
          simp [-List.getD_eq_getElem?_getD, -Int.ofNat_toNat, -getElem?_pos, er41_0, er41_1, er41_2, er41_3, er41_4, er41_5, er41_6, er41_7, er41_9, er41_10, er41_11, er41_12, er41_13, er41_14, er41_15, er41_16, er41_17, er41_18, er41_20, er41_22, hlen, hal', hal, haw]
          refine pc_loopI (fun m2 st => ∃ (b : Nat) (o p14 p15 : AV) (H : Heap), b + m2 = xs.length ∧ a < b ∧ OwnE true 3 H o (accE F xs.length a b) ∧ H[0]? = some (.cells 0 false [.int .i64 n, v]) ∧ H[1]? = some (.cells 0 false [.int .i64 0, .nils]) ∧ H[2]? = some (.cells 0 false [.int .i64 xs.length, o]) ∧
            st = ([gV n v, lv, .ptr 0 0 0, .ptr 1 0 0, .int .i64 0, .int .i64 i, .ptr 2 0 0, .int .i64 a, .int .i64 b, .bool false, .bool false, p11, .bool false, .bool true, p14, p15], H)) (xs.length - (a + 1))
            ⟨a + 1, _, _, _, _, by omega, by omega, ho, e0, e1, e2, rfl⟩ ?_
          rintro m2 st2 ⟨b, o, p14, p15, H, hb, hab, ho, e0, e1, e2, rfl⟩
          by_cases hbl : b < xs.length
          · have hbl' : (b : Int) < xs.length := by omega
            have hbw := wrap1 hbl (by omega)
            obtain ⟨ib, zb⟩ := hl.at hbl
            have cH := (hH n xs[a] xs[b] v es hv).eq
            rw [hF a b hal hbl] at cH
            have hal2 := accE_len F xs.length a b (by omega)
            have hmul : (a + 1) * xs.length ≤ 1000 * 1000 := Nat.mul_le_mul (by omega) (by omega)
            have hsn : accE F xs.length a (b + 1) = accE F xs.length a b ++ (if a < b ∧ F a b = true then [((a : Int), (b : Int))] else []) := by
              simp only [accE, rowE_snoc, List.append_assoc]
            cases hfab : F a b with
            | true =>
              rw [hfab] at cH
              rw [if_pos ⟨hab, hfab⟩] at hsn
              obtain ⟨o1, H1, x1, x2, x3, _, _, _⟩ := OwnE.app1 ho (a : Int) (b : Int) (lt_of_get e2) (by omega)
              have e2' : H1[2]? = some (.cells 0 false [.int .i64 xs.length, o]) := by rw [x3 2 (by omega)]; exact e2
              have hone1 : o1.one = true := Own.one x2
              have hcell1 : o1.cells = [o1] := Own.cells x2
              have hs1 : setAt [.int .i64 (xs.length : Int), o] 1 [o1] = [.int .i64 (xs.length : Int), o1] := rfl
              simp [-List.getD_eq_getElem?_getD, -Int.ofNat_toNat, -getElem?_pos, er41_0, er41_1, er41_2, er41_3, er41_4, er41_5, er41_6, er41_7, er41_9, er41_10, er41_11, er41_12, er41_13, er41_14, er41_15, er41_16, er41_17, er41_18, er41_20, er41_22, hlen, hbl', hbl, hone, hcl, ia, za, ib, zb, cH, e0, e2, e2', x1, hone1, hcell1, hs1, hbw]
              refine next_mk (m2 - 1) (by omega) ⟨b + 1, o1, _, _, H1.set 2 (.cells 0 false [.int .i64 xs.length, o1]), by omega, by omega, ?_, ?_, ?_, List.getElem?_set_self (lt_of_get e2'), rfl⟩
              · rw [hsn]; exact Own.keep x2 fun b hb hbv => List.getElem?_set_ne (by have := (Own.blk x2 hbv).1; omega)
              · rw [List.getElem?_set_ne (by omega), x3 0 (by omega)]; exact e0
              · rw [List.getElem?_set_ne (by omega), x3 1 (by omega)]; exact e1
            | false =>
              rw [hfab] at cH
              rw [if_neg (by simp [hfab]), List.append_nil] at hsn
              simp [-List.getD_eq_getElem?_getD, -Int.ofNat_toNat, -getElem?_pos, er41_0, er41_1, er41_2, er41_3, er41_4, er41_5, er41_6, er41_7, er41_9, er41_10, er41_11, er41_12, er41_13, er41_14, er41_15, er41_16, er41_17, er41_18, er41_20, er41_22, hlen, hbl', hbl, hone, hcl, ia, za, ib, zb, cH, e0, hbw]
              exact next_mk (m2 - 1) (by omega) ⟨b + 1, o, _, _, H, by omega, by omega, by rw [hsn]; exact ho, e0, e1, e2, rfl⟩
          · have hbl' : ¬ (b : Int) < xs.length := by omega
            have hbe : b = xs.length := by omega
            subst hbe
            rw [← accE_step] at ho
            simp [-List.getD_eq_getElem?_getD, -Int.ofNat_toNat, -getElem?_pos, er41_0, er41_1, er41_2, er41_3, er41_4, er41_5, er41_6, er41_7, er41_9, er41_10, er41_11, er41_12, er41_13, er41_14, er41_15, er41_16, er41_17, er41_18, er41_20, er41_22, hlen, haw]
            exact next_mk (m - 1) (by omega) ⟨a + 1, _, _, _, _, _, H, by omega, ho, e0, e1, e2, rfl⟩
        · have hal' : ¬ (a : Int) < xs.length := by omega
          have hae : a = xs.length := by omega
          subst hae
          rw [show accE F xs.length xs.length (xs.length + 1) = accE F xs.length xs.length xs.length by simp [accE, rowE_nil]] at ho
          have hset : ∀ z, (H.set 1 z)[1]? = some z := fun z => List.getElem?_set_self (lt_of_get e1)
          have hz : RdV true (H.set 1 (.cells 0 false [.int .i64 xs.length, o])) o (accE F xs.length xs.length xs.length) := OwnE.rd (P := 3) (Own.keep ho fun b hb hbe => List.getElem?_set_ne (by have := (Own.blk ho hbe).1; omega)) (fun h => by cases h)
          have hgoal := hz.viewG xs.length 0
          simp [-List.getD_eq_getElem?_getD, -Int.ofNat_toNat, -getElem?_pos, er41_0, er41_1, er41_2, er41_3, er41_4, er41_5, er41_6, er41_7, er41_9, er41_10, er41_11, er41_12, er41_13, er41_14, er41_15, er41_16, er41_17, er41_18, er41_20, er41_22, hlen, e1, e2, hset, Own.one ho, Own.cells ho, resK, resVs, resV, pack, hgoal]
      · have hf : refIndE n es xs = (0, [], 1) := by
          unfold refIndE
          rw [if_neg (by simp [hR]), if_neg (by simp [hany]), if_pos hnd]
        simp [hnd] at cU
        simp [-List.getD_eq_getElem?_getD, -Int.ofNat_toNat, -getElem?_pos, er41_0, er41_1, er41_2, er41_3, er41_4, er41_5, er41_6, er41_7, er41_9, er41_10, er41_11, er41_12, er41_13, er41_14, er41_15, er41_16, er41_17, er41_18, er41_20, er41_22, hlen, hlt', hlc, cU, hf, hnil, resK, resVs, resV, pack, viewG0]
  · simp only [Bool.not_eq_true] at hR
    have hf : refIndE n es xs = (0, [], 1) := by unfold refIndE; rw [if_pos hR]
    simp [hR] at cR
    simp [-List.getD_eq_getElem?_getD, -Int.ofNat_toNat, -getElem?_pos, er41_0, er41_1, er41_2, er41_3, er41_4, er41_5, er41_6, er41_7, er41_9, er41_10, er41_11, er41_12, er41_13, er41_14, er41_15, er41_16, er41_17, er41_18, er41_20, er41_22, hone, hcl, cR, hf, hnil, resK, resVs, resV, pack, viewG0]
end Go.Ai.G
/- SubInduced. -/
namespace Go.Ai.G
open Go.Ai
set_option maxRecDepth 100000
set_option linter.unusedSimpArgs false
set_option linter.unusedVariables false
variable {A : AProg} {φ : Nat → Nat}
attribute [local simp ↓] getD_z getD_s hid_k hid_o hid_q hid_v PO_nil PO_none PO_grd PD_nil PD_none PD_grd PDO_N PDO_X PDO_call PDO_calli PDO_callv PStep_N PStep_X PStep_call PStep_calli PC_skip PC_lab
  PC_ret PC_exit PC_reg PC_draw PC_seq PC_block PC_loop PC_scope PC_cond thenC_norm thenC_ret thenC_exit blockC_norm blockC_ret blockC_exit loopC_norm loopC_ret loopC_exit endR_ret
  endR_norm
attribute [local simp] gz PDX_free PDX_eq PStep_callv resK_none resK_t resK_tt KNO_val KNO_new KNO_ite KNO_map KXO_some KXO_ite KVA_t KVA_f KG_skip KG_tt KG_ff KG_tf KG_ft KB_true KB_false KNOD_val
  KNOD_new KNOD_ite n_mv n_pick n_bin n_eqB n_eqN n_eqS n_un n_conv n_fadd n_faddV n_fld1 n_fldN n_idx n_idxA n_idxV n_idxAV n_ext n_lenS n_lenS0 n_lenV n_lenT n_lenA n_min n_max
  n_build n_mkfn n_slc n_slc0 n_slcV n_slcA n_load1 n_loadN n_load1V n_loadNV n_alloc n_box n_bsl n_mksl n_nilcP n_nilcV n_nilcI n_nilcF x_store x_clear0 x_clear b_add b_sub b_mul
  b_eql b_neq b_lss b_leq b_gtr b_geq b_and16 unV ntouch gather hide unhide evalOpd applyOuts int_bne int_beq ite_bool ite_int one_bool cells_bool one_int cells_int one_str cells_str
  one_nilp cells_nilp one_ptr cells_ptr one_nils cells_nils one_sl cells_sl one_nilf cells_nilf one_fn cells_fn one_nili cells_nili one_mp cells_mp one_nilm cells_nilm one_iface
  cells_iface one_vs cells_vs one_vp cells_vp cells_agg Nat.testBit setAt_1 setAt_2 closeds_nil closeds_cons closed_bool closed_int closed_str closed_nilp closed_nils closed_nilm
  closed_nilf closed_nili closed_agg closed_tup closed_vs closed_vp closed_iface closed_fn closeds_cI closeds_cE viewA_closed viewR_closed AV.scal AV.scal0 fillA repA part_bool
  part_int part_str part_nilp part_ptr part_nils part_sl part_nilm part_mp part_nilf part_fn part_nili part_iface part_agg part_vs part_vp viewA_sl1 vaSl_cells wrap_0 wrap_1 wrap_2
  wrap_m1 set_last get_last
theorem hasE_iff {n : Int} {es : List Ed} (hR : rightE n es = true) (a b : Int) : hasE n es a b = true ↔ (a, b) ∈ es ∨ (b, a) ∈ es := by
  unfold hasE; rw [hR]; simp
theorem mapE_mem (f : Int → Int) (es : List Ed) (y : Ed) : y ∈ mapE f es ↔ (∃ e ∈ es, y = (f e.1, f e.2)) ∧ 0 ≤ y.1 ∧ 0 ≤ y.2 := by
  simp only [mapE, List.mem_filter, List.mem_map, Bool.and_eq_true, decide_eq_true_eq]
  constructor
  · rintro ⟨⟨e, he, rfl⟩, h⟩; exact ⟨⟨e, he, rfl⟩, h⟩
  · rintro ⟨⟨e, he, rfl⟩, h⟩; exact ⟨⟨e, he, rfl⟩, h⟩
/-- What the laws on sub ask of the functions. -/
structure SC (A : AProg) (φ : Nat → Nat) : Prop where
  of : ∀ n most v l, IsE v l → 0 ≤ most → most ≤ 1000 → PVal A (φ 39) [gV n v, .int .i64 most] (gV (anyN n most) (rE (anyE n most l)))
  ind : ∀ n v es lv xs, IsE v es → IsI lv xs → xs.length ≤ 100000 → PVal A (φ 40) [gV n v, lv] (gR (inducedE n es xs))
  rind : ∀ n v es lv xs, IsE v es → IsI lv xs → xs.length ≤ 1000 → PVal A (φ 41) [gV n v, lv] (gR (refIndE n es xs))
  sameG : ∀ n m v u xs ys, IsE v xs → IsE u ys → xs.length < 1000000000000 → PVal A (φ 3) [gV n v, gV m u] (.bool (decide (n = m ∧ xs = ys)))
end Go.Ai.G
/- sub.Delete. -/
namespace Go.Ai.G
open Go.Ai
set_option maxRecDepth 100000
set_option linter.unusedSimpArgs false
set_option linter.unusedVariables false
variable {A : AProg} {φ : Nat → Nat}
attribute [local simp ↓] getD_z getD_s hid_k hid_o hid_q hid_v PO_nil PO_none PO_grd PD_nil PD_none PD_grd PDO_N PDO_X PDO_call PDO_calli PDO_callv PStep_N PStep_X PStep_call PStep_calli PC_skip PC_lab
  PC_ret PC_exit PC_reg PC_draw PC_seq PC_block PC_loop PC_scope PC_cond thenC_norm thenC_ret thenC_exit blockC_norm blockC_ret blockC_exit loopC_norm loopC_ret loopC_exit endR_ret
  endR_norm
attribute [local simp] gz PDX_free PDX_eq PStep_callv resK_none resK_t resK_tt KNO_val KNO_new KNO_ite KNO_map KXO_some KXO_ite KVA_t KVA_f KG_skip KG_tt KG_ff KG_tf KG_ft KB_true KB_false KNOD_val
  KNOD_new KNOD_ite n_mv n_pick n_bin n_eqB n_eqN n_eqS n_un n_conv n_fadd n_faddV n_fld1 n_fldN n_idx n_idxA n_idxV n_idxAV n_ext n_lenS n_lenS0 n_lenV n_lenT n_lenA n_min n_max
  n_build n_mkfn n_slc n_slc0 n_slcV n_slcA n_load1 n_loadN n_load1V n_loadNV n_alloc n_box n_bsl n_mksl n_nilcP n_nilcV n_nilcI n_nilcF x_store x_clear0 x_clear b_add b_sub b_mul
  b_eql b_neq b_lss b_leq b_gtr b_geq b_and16 unV ntouch gather hide unhide evalOpd applyOuts int_bne int_beq ite_bool ite_int one_bool cells_bool one_int cells_int one_str cells_str
  one_nilp cells_nilp one_ptr cells_ptr one_nils cells_nils one_sl cells_sl one_nilf cells_nilf one_fn cells_fn one_nili cells_nili one_mp cells_mp one_nilm cells_nilm one_iface
  cells_iface one_vs cells_vs one_vp cells_vp cells_agg Nat.testBit setAt_1 setAt_2 closeds_nil closeds_cons closed_bool closed_int closed_str closed_nilp closed_nils closed_nilm
  closed_nilf closed_nili closed_agg closed_tup closed_vs closed_vp closed_iface closed_fn closeds_cI closeds_cE viewA_closed viewR_closed AV.scal AV.scal0 fillA repA part_bool
  part_int part_str part_nilp part_ptr part_nils part_sl part_nilm part_mp part_nilf part_fn part_nili part_iface part_agg part_vs part_vp viewA_sl1 vaSl_cells wrap_0 wrap_1 wrap_2
  wrap_m1 set_last get_last
theorem er43_0 (φ : Nat → Nat) : r43_0 φ = [
  ⟨0, .N .box, [.n 0], none, 0⟩,
  ⟨1, .N .box, [.n 1], none, 0⟩,
  ⟨2, .N (.alloc [.int .i64 0, .nils]), [], none, 0⟩,
  ⟨3, .N .mv, [.c (.int .i64 0)], none, 0⟩] := Eq.trans rfl rfl
theorem er43_1 (φ : Nat → Nat) : r43_1 φ = [
  ⟨0, .N (.loadN 2), [.n 2], none, 0⟩,
  ⟨1, .calli true (φ 4), [.l 0], none, 0⟩,
  ⟨2, .N (.un .not), [.l 0], none, 0⟩,
  ⟨3, .N .mv, [.l 0], none, 0⟩] := Eq.trans rfl rfl
theorem er43_2 (φ : Nat → Nat) : r43_2 φ = [
  ⟨0, .N (.build [.int .i64 0, .nils] []), [], none, 0⟩,
  ⟨1, .X (.store 2), [.n 4, .l 0], none, 0⟩,
  ⟨2, .N .mv, [.c (.int .i64 1)], none, 0⟩] := Eq.trans rfl rfl
theorem er43_3 (φ : Nat → Nat) : r43_3 φ = [
  ⟨0, .N .load1, [.n 3], none, 0⟩,
  ⟨1, .N (.bin .lss), [.l 0, .c (.int .i64 0)], none, 0⟩,
  ⟨2, .N .mv, [.l 0], none, 0⟩,
  ⟨3, .N .load1, [.n 3], some (.l 0, false), 0⟩,
  ⟨4, .N (.fadd 0), [.n 2], some (.l 1, false), 0⟩,
  ⟨5, .N .load1, [.l 0], some (.l 2, false), 0⟩,
  ⟨6, .N (.bin .geq), [.l 2, .l 0], some (.l 3, false), 0⟩,
  ⟨7, .N .pick, [.l 4, .c (.bool true), .l 0], none, 0⟩,
  ⟨8, .N .mv, [.l 0], none, 0⟩] := Eq.trans rfl rfl
theorem er43_4 (φ : Nat → Nat) : r43_4 φ = [
  ⟨0, .N (.build [.int .i64 0, .nils] []), [], none, 0⟩,
  ⟨1, .X (.store 2), [.n 4, .l 0], none, 0⟩,
  ⟨2, .N .mv, [.c (.int .i64 4)], none, 0⟩] := Eq.trans rfl rfl
theorem er43_5 (φ : Nat → Nat) : r43_5 φ = [
  ⟨0, .N (.fadd 0), [.n 2], none, 0⟩,
  ⟨1, .N .load1, [.l 0], none, 0⟩,
  ⟨2, .N (.bin .sub), [.l 0, .c (.int .i64 1)], none, 0⟩,
  ⟨3, .N (.mkfn (.func (φ 56)) 0), [.n 3], none, 0⟩,
  ⟨4, .N (.build [.int .i64 0, .nilf] [(0, 1), (1, 1)]), [.l 1, .l 0], none, 0⟩,
  ⟨5, .N (.loadN 2), [.n 2], none, 0⟩,
  ⟨6, .call (φ 54), [.l 1, .l 0], none, 0⟩,
  ⟨7, .N (.ext 0), [.l 0], none, 0⟩,
  ⟨8, .N (.ext 1), [.l 1], none, 0⟩,
  ⟨9, .X (.store 2), [.n 4, .l 1], none, 0⟩,
  ⟨10, .N .mv, [.l 1], none, 0⟩] := Eq.trans rfl rfl
theorem er56_0 (φ : Nat → Nat) : r56_0 φ = [
  ⟨0, .N .mv, [.c (.int .i64 0)], none, 0⟩] := Eq.trans rfl rfl
theorem er56_1 (φ : Nat → Nat) : r56_1 φ = [
  ⟨0, .N .mv, [.n 0], none, 0⟩,
  ⟨1, .N .load1, [.n 1], none, 0⟩,
  ⟨2, .N (.bin .eql), [.l 1, .l 0], none, 0⟩,
  ⟨3, .N .mv, [.l 0], none, 0⟩] := Eq.trans rfl rfl
theorem er56_2 (φ : Nat → Nat) : r56_2 φ = [
  ⟨0, .N .mv, [.c (.int .i64 (-1))], none, 0⟩] := Eq.trans rfl rfl
theorem er56_3 (φ : Nat → Nat) : r56_3 φ = [
  ⟨0, .N .mv, [.n 0], none, 0⟩,
  ⟨1, .N .load1, [.n 1], none, 0⟩,
  ⟨2, .N (.bin .gtr), [.l 1, .l 0], none, 0⟩,
  ⟨3, .N .mv, [.l 0], none, 0⟩] := Eq.trans rfl rfl
theorem er56_4 (φ : Nat → Nat) : r56_4 φ = [
  ⟨0, .N .mv, [.n 0], none, 0⟩,
  ⟨1, .N (.bin .sub), [.l 0, .c (.int .i64 1)], none, 0⟩,
  ⟨2, .N .mv, [.l 0], none, 0⟩] := Eq.trans rfl rfl
theorem er56_5 (φ : Nat → Nat) : r56_5 φ = [
  ⟨0, .N .mv, [.n 0], none, 0⟩,
  ⟨1, .N .mv, [.l 0], none, 0⟩] := Eq.trans rfl rfl
def delI (v x : Int) : Int := if x = v then -1 else if v < x then x - 1 else x
def deleteE (n : Int) (es : List Ed) (v : Int) : Int × List Ed × Int :=
  if rightE n es = false then (0, [], 1) else if badI n v then (0, [], 4) else normalE (n - 1) (mapE (delI v) es)
theorem w_Del1 (h : Has A (φ 56) (f56 φ)) (x v : Int) (hx : 0 ≤ x ∧ x ≤ 1000000) (H : Heap) (K : AV → Heap → Prop) (h1 : H[1]? = some (.cells 0 false [.int .i64 v])) (hK : K (.int .i64 (delI v x)) H) : PCall A (φ 56) [.int .i64 x, .ptr 1 0 0] H K := by
  refine pcall_has h rfl ?_
  have hw : IntKind.i64.wrap (x - 1) = x - 1 := wrap_in (by omega) (by omega)
  simp only [b56, f56]
  unfold delI at hK
  by_cases q1 : x = v
  · subst q1
    rw [if_pos rfl] at hK
    simp [-List.getD_eq_getElem?_getD, -Int.ofNat_toNat, -getElem?_pos, er56_0, er56_1, er56_2, er56_3, er56_4, er56_5, h1, resK, resVs, resV, pack]
    exact hK
  · rw [if_neg q1] at hK
    by_cases q2 : v < x
    · rw [if_pos q2] at hK
      simp [-List.getD_eq_getElem?_getD, -Int.ofNat_toNat, -getElem?_pos, er56_0, er56_1, er56_2, er56_3, er56_4, er56_5, h1, q1, q2, hw, resK, resVs, resV, pack]
      exact hK
    · rw [if_neg q2] at hK
      simp [-List.getD_eq_getElem?_getD, -Int.ofNat_toNat, -getElem?_pos, er56_0, er56_1, er56_2, er56_3, er56_4, er56_5, h1, q1, q2, resK, resVs, resV, pack]
      exact hK
theorem w_Delete6 (h : Has A (φ 43) (f43 φ)) (h1 : Has A (φ 56) (f56 φ)) (h2 : Has A (φ 54) (f54 φ)) (hN : NormalC A (φ 1)) (hRc : RightC A (φ 4)) (n : Int) (v : AV) (es : List Ed) (hv : IsE v es) (x : Int) :
    PVal A (φ 43) [gV n v, .int .i64 x] (gR (deleteE n es x)) := by
  have hone := hv.one
  have hcl := hv.closed
  have cR := (hRc n v es hv).eq
  have hnil : rE ([] : List Ed) = AV.nils := rfl
  refine pval_has h rfl ?_
  simp only [b43, f43]
  by_cases hR : rightE n es = true
  · have hn := right_len hR
    have hrb := right_ends hR
    simp [hR] at cR
    by_cases hb : badI n x = true
    · have hf : deleteE n es x = (0, [], 4) := by unfold deleteE; rw [if_neg (by simp [hR]), if_pos hb]
      simp only [badI, Bool.or_eq_true, decide_eq_true_eq] at hb
      by_cases q1 : x < 0
      · simp [-List.getD_eq_getElem?_getD, -Int.ofNat_toNat, -getElem?_pos, er43_0, er43_1, er43_2, er43_3, er43_4, er43_5, hone, hcl, cR, q1, hf, hnil, resK, resVs, resV, pack, viewG0]
      · have q2 : n ≤ x := by omega
        simp [-List.getD_eq_getElem?_getD, -Int.ofNat_toNat, -getElem?_pos, er43_0, er43_1, er43_2, er43_3, er43_4, er43_5, hone, hcl, cR, q1, q2, hf, hnil, resK, resVs, resV, pack, viewG0]
    · have hf : deleteE n es x = normalE (n - 1) (mapE (delI x) es) := by unfold deleteE; rw [if_neg (by simp [hR]), if_neg hb]
      simp only [Bool.not_eq_true, badI, Bool.or_eq_false_iff, decide_eq_false_iff_not] at hb
      obtain ⟨q1, q2⟩ := hb
      have hw : IntKind.i64.wrap (n - 1) = n - 1 := wrap_in (by omega) (by omega)
      simp [-List.getD_eq_getElem?_getD, -Int.ofNat_toNat, -getElem?_pos, er43_0, er43_1, er43_2, er43_3, er43_4, er43_5, hone, hcl, cR, q1, q2, hw]
      refine w_renamed h2 hN (delI x) (φ 56) (.ptr 1 0 0) (n - 1) n v es hv hn.2.2 _ rfl (fun e he y hy H' K' hsame hK => ?_) (fun H' hsame hle => ?_)
      · have he' := hrb e he
        refine w_Del1 h1 y x (by omega) H' K' ?_ hK
        rw [hsame 1 (by simp)]; rfl
      · have b1 : H'[2]? = some (.cells 0 false [.int .i64 0, .nils]) := by rw [hsame 2 (by simp)]; rfl
        have hset : ∀ z, (H'.set 2 z)[2]? = some z := fun z => List.getElem?_set_self (lt_of_get b1)
        simp only [hid_k, nR]
        rw [hf]
        generalize normalE (n - 1) (mapE (delI x) es) = y at *
        have iy := isE_r y.2.1
        simp [-List.getD_eq_getElem?_getD, -Int.ofNat_toNat, -getElem?_pos, er43_0, er43_1, er43_2, er43_3, er43_4, er43_5, b1, hset, iy.one, iy.cells, iy.closed, resK, resVs, resV, pack]
  · simp only [Bool.not_eq_true] at hR
    have hf : deleteE n es x = (0, [], 1) := by unfold deleteE; rw [if_pos hR]
    simp [hR] at cR
    simp [-List.getD_eq_getElem?_getD, -Int.ofNat_toNat, -getElem?_pos, er43_0, er43_1, er43_2, er43_3, er43_4, er43_5, hone, hcl, cR, hf, hnil, resK, resVs, resV, pack, viewG0]
end Go.Ai.G
/- SubLeaves. -/
namespace Go.Ai.G
open Go.Ai
set_option maxRecDepth 100000
set_option linter.unusedSimpArgs false
set_option linter.unusedVariables false
variable {A : AProg} {φ : Nat → Nat}
end Go.Ai.G
/- SubLeaves, the walk. -/
namespace Go.Ai.G
open Go.Ai
set_option maxRecDepth 100000
set_option linter.unusedSimpArgs false
set_option linter.unusedVariables false
variable {A : AProg} {φ : Nat → Nat}
attribute [local simp ↓] getD_z getD_s hid_k hid_o hid_q hid_v PO_nil PO_none PO_grd PD_nil PD_none PD_grd PDO_N PDO_X PDO_call PDO_calli PDO_callv PStep_N PStep_X PStep_call PStep_calli PC_skip PC_lab
  PC_ret PC_exit PC_reg PC_draw PC_seq PC_block PC_loop PC_scope PC_cond thenC_norm thenC_ret thenC_exit blockC_norm blockC_ret blockC_exit loopC_norm loopC_ret loopC_exit endR_ret
  endR_norm
attribute [local simp] gz PDX_free PDX_eq PStep_callv resK_none resK_t resK_tt KNO_val KNO_new KNO_ite KNO_map KXO_some KXO_ite KVA_t KVA_f KG_skip KG_tt KG_ff KG_tf KG_ft KB_true KB_false KNOD_val
  KNOD_new KNOD_ite n_mv n_pick n_bin n_eqB n_eqN n_eqS n_un n_conv n_fadd n_faddV n_fld1 n_fldN n_idx n_idxA n_idxV n_idxAV n_ext n_lenS n_lenS0 n_lenV n_lenT n_lenA n_min n_max
  n_build n_mkfn n_slc n_slc0 n_slcV n_slcA n_load1 n_loadN n_load1V n_loadNV n_alloc n_box n_bsl n_mksl n_nilcP n_nilcV n_nilcI n_nilcF x_store x_clear0 x_clear b_add b_sub b_mul
  b_eql b_neq b_lss b_leq b_gtr b_geq b_and16 unV ntouch gather hide unhide evalOpd applyOuts int_bne int_beq ite_bool ite_int one_bool cells_bool one_int cells_int one_str cells_str
  one_nilp cells_nilp one_ptr cells_ptr one_nils cells_nils one_sl cells_sl one_nilf cells_nilf one_fn cells_fn one_nili cells_nili one_mp cells_mp one_nilm cells_nilm one_iface
  cells_iface one_vs cells_vs one_vp cells_vp cells_agg Nat.testBit setAt_1 setAt_2 closeds_nil closeds_cons closed_bool closed_int closed_str closed_nilp closed_nils closed_nilm
  closed_nilf closed_nili closed_agg closed_tup closed_vs closed_vp closed_iface closed_fn closeds_cI closeds_cE viewA_closed viewR_closed AV.scal AV.scal0 fillA repA part_bool
  part_int part_str part_nilp part_ptr part_nils part_sl part_nilm part_mp part_nilf part_fn part_nili part_iface part_agg part_vs part_vp viewA_sl1 vaSl_cells wrap_0 wrap_1 wrap_2
  wrap_m1 set_last get_last
structure SL (A : AProg) (φ : Nat → Nat) : Prop where
  s : SC A φ
  del : ∀ n v es x, IsE v es → PVal A (φ 43) [gV n v, .int .i64 x] (gR (deleteE n es x))
theorem next_ne {a t N : Int} (ha : 0 ≤ a ∧ a < N) (ht : 0 ≤ t ∧ t < N - 1) : 0 ≤ (a + 1 + t).tmod N ∧ (a + 1 + t).tmod N < N ∧ a ≠ (a + 1 + t).tmod N := by
  rw [Int.tmod_eq_emod_of_nonneg (by omega)]
  rcases Int.lt_or_le (a + 1 + t) N with h | h
  · rw [Int.emod_eq_of_lt (by omega) h]; omega
  · rw [show a + 1 + t = (a + 1 + t - N) + N by omega, Int.add_emod_right, Int.emod_eq_of_lt (by omega) (by omega)]; omega
end Go.Ai.G
/- sub.Contract. -/
namespace Go.Ai.G
open Go.Ai
set_option maxRecDepth 100000
set_option linter.unusedSimpArgs false
set_option linter.unusedVariables false
variable {A : AProg} {φ : Nat → Nat}
attribute [local simp ↓] getD_z getD_s hid_k hid_o hid_q hid_v PO_nil PO_none PO_grd PD_nil PD_none PD_grd PDO_N PDO_X PDO_call PDO_calli PDO_callv PStep_N PStep_X PStep_call PStep_calli PC_skip PC_lab
  PC_ret PC_exit PC_reg PC_draw PC_seq PC_block PC_loop PC_scope PC_cond thenC_norm thenC_ret thenC_exit blockC_norm blockC_ret blockC_exit loopC_norm loopC_ret loopC_exit endR_ret
  endR_norm
attribute [local simp] gz PDX_free PDX_eq PStep_callv resK_none resK_t resK_tt KNO_val KNO_new KNO_ite KNO_map KXO_some KXO_ite KVA_t KVA_f KG_skip KG_tt KG_ff KG_tf KG_ft KB_true KB_false KNOD_val
  KNOD_new KNOD_ite n_mv n_pick n_bin n_eqB n_eqN n_eqS n_un n_conv n_fadd n_faddV n_fld1 n_fldN n_idx n_idxA n_idxV n_idxAV n_ext n_lenS n_lenS0 n_lenV n_lenT n_lenA n_min n_max
  n_build n_mkfn n_slc n_slc0 n_slcV n_slcA n_load1 n_loadN n_load1V n_loadNV n_alloc n_box n_bsl n_mksl n_nilcP n_nilcV n_nilcI n_nilcF x_store x_clear0 x_clear b_add b_sub b_mul
  b_eql b_neq b_lss b_leq b_gtr b_geq b_and16 unV ntouch gather hide unhide evalOpd applyOuts int_bne int_beq ite_bool ite_int one_bool cells_bool one_int cells_int one_str cells_str
  one_nilp cells_nilp one_ptr cells_ptr one_nils cells_nils one_sl cells_sl one_nilf cells_nilf one_fn cells_fn one_nili cells_nili one_mp cells_mp one_nilm cells_nilm one_iface
  cells_iface one_vs cells_vs one_vp cells_vp cells_agg Nat.testBit setAt_1 setAt_2 closeds_nil closeds_cons closed_bool closed_int closed_str closed_nilp closed_nils closed_nilm
  closed_nilf closed_nili closed_agg closed_tup closed_vs closed_vp closed_iface closed_fn closeds_cI closeds_cE viewA_closed viewR_closed AV.scal AV.scal0 fillA repA part_bool
  part_int part_str part_nilp part_ptr part_nils part_sl part_nilm part_mp part_nilf part_fn part_nili part_iface part_agg part_vs part_vp viewA_sl1 vaSl_cells wrap_0 wrap_1 wrap_2
  wrap_m1 set_last get_last
theorem er45_0 (φ : Nat → Nat) : r45_0 φ = [
  ⟨0, .N .box, [.n 0], none, 0⟩,
  ⟨1, .N (.alloc [.int .i64 0, .nils]), [], none, 0⟩,
  ⟨2, .N .mv, [.c (.int .i64 0)], none, 0⟩] := Eq.trans rfl rfl
theorem er45_1 (φ : Nat → Nat) : r45_1 φ = [
  ⟨0, .N (.loadN 2), [.n 3], none, 0⟩,
  ⟨1, .calli true (φ 4), [.l 0], none, 0⟩,
  ⟨2, .N (.un .not), [.l 0], none, 0⟩,
  ⟨3, .N .mv, [.l 0], none, 0⟩] := Eq.trans rfl rfl
theorem er45_2 (φ : Nat → Nat) : r45_2 φ = [
  ⟨0, .N (.build [.int .i64 0, .nils] []), [], none, 0⟩,
  ⟨1, .X (.store 2), [.n 4, .l 0], none, 0⟩,
  ⟨2, .N .mv, [.c (.int .i64 1)], none, 0⟩] := Eq.trans rfl rfl
theorem er45_3 (φ : Nat → Nat) : r45_3 φ = [
  ⟨0, .N .mv, [.n 1], none, 0⟩,
  ⟨1, .N .mv, [.n 2], none, 0⟩,
  ⟨2, .N .min, [.l 1, .l 0], none, 0⟩,
  ⟨3, .N (.bin .lss), [.l 0, .c (.int .i64 0)], none, 0⟩,
  ⟨4, .N .mv, [.l 0], none, 0⟩,
  ⟨5, .N .mv, [.n 1], some (.l 0, false), 0⟩,
  ⟨6, .N .mv, [.n 2], some (.l 1, false), 0⟩,
  ⟨7, .N .max, [.l 1, .l 0], some (.l 2, false), 0⟩,
  ⟨8, .N (.fadd 0), [.n 3], some (.l 3, false), 0⟩,
  ⟨9, .N .load1, [.l 0], some (.l 4, false), 0⟩,
  ⟨10, .N (.bin .geq), [.l 2, .l 0], some (.l 5, false), 0⟩,
  ⟨11, .N .pick, [.l 6, .c (.bool true), .l 0], none, 0⟩,
  ⟨12, .N .mv, [.l 0], none, 0⟩] := Eq.trans rfl rfl
theorem er45_4 (φ : Nat → Nat) : r45_4 φ = [
  ⟨0, .N (.build [.int .i64 0, .nils] []), [], none, 0⟩,
  ⟨1, .X (.store 2), [.n 4, .l 0], none, 0⟩,
  ⟨2, .N .mv, [.c (.int .i64 4)], none, 0⟩] := Eq.trans rfl rfl
theorem er45_5 (φ : Nat → Nat) : r45_5 φ = [
  ⟨0, .N (.loadN 2), [.n 3], none, 0⟩,
  ⟨1, .N .mv, [.n 1], none, 0⟩,
  ⟨2, .N .mv, [.n 2], none, 0⟩,
  ⟨3, .calli true (φ 7), [.l 2, .l 1, .l 0], none, 0⟩,
  ⟨4, .N (.un .not), [.l 0], none, 0⟩,
  ⟨5, .N .mv, [.l 0], none, 0⟩] := Eq.trans rfl rfl
theorem er45_6 (φ : Nat → Nat) : r45_6 φ = [
  ⟨0, .N (.build [.int .i64 0, .nils] []), [], none, 0⟩,
  ⟨1, .X (.store 2), [.n 4, .l 0], none, 0⟩,
  ⟨2, .N .mv, [.c (.int .i64 6)], none, 0⟩] := Eq.trans rfl rfl
theorem er45_7 (φ : Nat → Nat) : r45_7 φ = [
  ⟨0, .N .mv, [.n 1], none, 0⟩,
  ⟨1, .N .mv, [.n 2], none, 0⟩,
  ⟨2, .N .min, [.l 1, .l 0], none, 0⟩,
  ⟨3, .N .mv, [.n 1], none, 0⟩,
  ⟨4, .N .mv, [.n 2], none, 0⟩,
  ⟨5, .N .max, [.l 1, .l 0], none, 0⟩,
  ⟨6, .N (.alloc [.int .i64 0]), [], none, 0⟩,
  ⟨7, .N (.alloc [.int .i64 0]), [], none, 0⟩,
  ⟨8, .X (.store 1), [.l 1, .l 5], none, 0⟩,
  ⟨9, .X (.store 1), [.l 1, .l 3], none, 0⟩] := Eq.trans rfl rfl
theorem er45_8 (φ : Nat → Nat) : r45_8 φ = [
  ⟨0, .N (.fadd 0), [.n 3], none, 0⟩,
  ⟨1, .N .load1, [.l 0], none, 0⟩,
  ⟨2, .N (.bin .sub), [.l 0, .c (.int .i64 1)], none, 0⟩,
  ⟨3, .N (.mkfn (.func (φ 58)) 0), [.n 7, .n 6], none, 0⟩,
  ⟨4, .N (.build [.int .i64 0, .nilf] [(0, 1), (1, 1)]), [.l 1, .l 0], none, 0⟩,
  ⟨5, .N (.loadN 2), [.n 3], none, 0⟩,
  ⟨6, .call (φ 54), [.l 1, .l 0], none, 0⟩,
  ⟨7, .N (.ext 0), [.l 0], none, 0⟩,
  ⟨8, .N (.ext 1), [.l 1], none, 0⟩,
  ⟨9, .X (.store 2), [.n 4, .l 1], none, 0⟩,
  ⟨10, .N .mv, [.l 1], none, 0⟩] := Eq.trans rfl rfl
theorem er58_0 (φ : Nat → Nat) : r58_0 φ = [
  ⟨0, .N .mv, [.c (.int .i64 0)], none, 0⟩] := Eq.trans rfl rfl
theorem er58_1 (φ : Nat → Nat) : r58_1 φ = [
  ⟨0, .N .mv, [.n 0], none, 0⟩,
  ⟨1, .N .load1, [.n 1], none, 0⟩,
  ⟨2, .N (.bin .eql), [.l 1, .l 0], none, 0⟩,
  ⟨3, .N .mv, [.l 0], none, 0⟩] := Eq.trans rfl rfl
theorem er58_2 (φ : Nat → Nat) : r58_2 φ = [
  ⟨0, .N .load1, [.n 2], none, 0⟩,
  ⟨1, .N .mv, [.l 0], none, 0⟩] := Eq.trans rfl rfl
theorem er58_3 (φ : Nat → Nat) : r58_3 φ = [
  ⟨0, .N .mv, [.n 0], none, 0⟩,
  ⟨1, .N .load1, [.n 1], none, 0⟩,
  ⟨2, .N (.bin .gtr), [.l 1, .l 0], none, 0⟩,
  ⟨3, .N .mv, [.l 0], none, 0⟩] := Eq.trans rfl rfl
theorem er58_4 (φ : Nat → Nat) : r58_4 φ = [
  ⟨0, .N .mv, [.n 0], none, 0⟩,
  ⟨1, .N (.bin .sub), [.l 0, .c (.int .i64 1)], none, 0⟩,
  ⟨2, .N .mv, [.l 0], none, 0⟩] := Eq.trans rfl rfl
theorem er58_5 (φ : Nat → Nat) : r58_5 φ = [
  ⟨0, .N .mv, [.n 0], none, 0⟩,
  ⟨1, .N .mv, [.l 0], none, 0⟩] := Eq.trans rfl rfl
def conI (lo hi x : Int) : Int := if x = hi then lo else if hi < x then x - 1 else x
def contractE (n : Int) (es : List Ed) (a b : Int) : Int × List Ed × Int :=
  if rightE n es = false then (0, [], 1) else if min a b < 0 ∨ n ≤ max a b then (0, [], 4) else if hasE n es a b = false then (0, [], 6) else normalE (n - 1) (mapE (conI (min a b) (max a b)) es)
theorem w_Con1 (h : Has A (φ 58) (f58 φ)) (x lo hi : Int) (hx : 0 ≤ x ∧ x ≤ 1000000) (H : Heap) (K : AV → Heap → Prop) (h1 : H[3]? = some (.cells 0 false [.int .i64 hi])) (h2 : H[2]? = some (.cells 0 false [.int .i64 lo])) (hK : K (.int .i64 (conI lo hi x)) H) : PCall A (φ 58) [.int .i64 x, .ptr 3 0 0, .ptr 2 0 0] H K := by
  refine pcall_has h rfl ?_
  have hw : IntKind.i64.wrap (x - 1) = x - 1 := wrap_in (by omega) (by omega)
  simp only [b58, f58]
  unfold conI at hK
  by_cases q1 : x = hi
  · subst q1
    rw [if_pos rfl] at hK
    simp [-List.getD_eq_getElem?_getD, -Int.ofNat_toNat, -getElem?_pos, er58_0, er58_1, er58_2, er58_3, er58_4, er58_5, h1, h2, resK, resVs, resV, pack]
    exact hK
  · rw [if_neg q1] at hK
    by_cases q2 : hi < x
    · rw [if_pos q2] at hK
      simp [-List.getD_eq_getElem?_getD, -Int.ofNat_toNat, -getElem?_pos, er58_0, er58_1, er58_2, er58_3, er58_4, er58_5, h1, h2, q1, q2, hw, resK, resVs, resV, pack]
      exact hK
    · rw [if_neg q2] at hK
      simp [-List.getD_eq_getElem?_getD, -Int.ofNat_toNat, -getElem?_pos, er58_0, er58_1, er58_2, er58_3, er58_4, er58_5, h1, h2, q1, q2, resK, resVs, resV, pack]
      exact hK
set_option maxHeartbeats 1000000 in
theorem w_renamed2 (h : Has A (φ 54) (f54 φ)) (hN : NormalC A (φ 1)) (f : Int → Int) (fid : Nat) (cap cap2 : AV) (m N : Int) (u : AV) (es : List Ed) (hv : IsE u es) (hn : es.length ≤ 4000) (H : Heap) {K : AV → Heap → Prop} (hcap : cap.one = true) (hcap2 : cap2.one = true)
    (hclo : ∀ e ∈ es, ∀ x, x = e.1 ∨ x = e.2 → ∀ (H' : Heap) (K' : AV → Heap → Prop), (∀ b, b < H.length → H'[b]? = H[b]?) → K' (.int .i64 (f x)) H' → PCall A fid [.int .i64 x, cap, cap2] H' K')
    (hk : ∀ H', (∀ b, b < H.length → H'[b]? = H[b]?) → H.length ≤ H'.length → K (nR m (mapE f es)) H') : PCall A (φ 54) [.agg [.int .i64 m, .fn (.func fid) [] [cap, cap2]], gV N u] H K := by
  have hlen := hv.len
  have hone := hv.one
  refine pcall_has h rfl ?_
  simp only [l54_9, b54, f54]
  simp [-List.getD_eq_getElem?_getD, -Int.ofNat_toNat, -getElem?_pos, er54_0, er54_1, er54_2, er54_3, er54_4, er54_5, er54_6, er54_7, er54_8, er54_10, hlen, hone, get_at, get_at0, set_at, set_at0]
  refine pc_loopI (fun k st => ∃ (i : Nat) (l x a b p13 p14 : AV) (H' : Heap), i + k = es.length ∧ OwnE true (H.length + 3) H' l (mapE f (es.take i)) ∧
      H'[H.length]? = some (.cells 0 false [.int .i64 m, .fn (.func fid) [] [cap, cap2]]) ∧ H'[H.length + 1]? = some (.cells 0 false [.int .i64 N, u]) ∧ H'[H.length + 2]? = some (.cells 0 false [.int .i64 0, .nils]) ∧ (∀ b, b < H.length → H'[b]? = H[b]?) ∧
      st = ([.agg [.int .i64 m, .fn (.func fid) [] [cap, cap2]], gV N u, .ptr H.length 0 0, .ptr (H.length + 1) 0 0, .ptr (H.length + 2) 0 0, .int .i64 0, l, x, a, b, u, .int .i64 es.length, .int .i64 i, p13, p14], H')) es.length
      ⟨0, _, _, _, _, _, _, _, by simp, own_nil _ _ _, get_at0 _ _, get_at _ _ 1, get_at _ _ 2, fun b hb => List.getElem?_append_left hb, rfl⟩ ?_
  rintro k st ⟨i, l, x, a, b, p13, p14, H', hi, ho, g0, g1, g2, hold, rfl⟩
  have hb2 := lt_of_get g2
  by_cases hlt : i < es.length
  · have hlt' : (i : Int) < es.length := by omega
    obtain ⟨i1, z1, z2, le1, t1⟩ := hv.at hlt
    have hw1 := wrap1 hlt (by omega)
    have hts : mapE f (es.take (i + 1)) = mapE f (es.take i) ++ (if 0 ≤ f es[i].1 ∧ 0 ≤ f es[i].2 then [(f es[i].1, f es[i].2)] else []) := by rw [List.take_succ_eq_append_getElem hlt, mapE_snoc]
    have hmem := List.getElem_mem hlt
    generalize es[i] = e at *
    have g0J : ∀ J, (H' ++ J)[H.length]? = some (.cells 0 false [.int .i64 m, .fn (.func fid) [] [cap, cap2]]) := fun J => get_more J g0
    simp [-List.getD_eq_getElem?_getD, -Int.ofNat_toNat, -getElem?_pos, er54_0, er54_1, er54_2, er54_3, er54_4, er54_5, er54_6, er54_7, er54_8, er54_10, hlt', i1, z1, z2, le1, t1, g0, g0J, get_at, get_at0, set_at, set_at0, PDX_eq]
    have hk1 : ∀ b, b < H.length → (H' ++ [.cells 0 false [.int .i64 e.1, .int .i64 e.2]])[b]? = H[b]? := fun b hb => by
      rw [List.getElem?_append_left (by omega)]; exact hold b hb
    refine hclo e hmem e.1 (.inl rfl) _ _ hk1 ?_
    simp only [hid_k]
    refine ⟨fun b _ => trivial, ?_⟩
    simp [-List.getD_eq_getElem?_getD, -Int.ofNat_toNat, -getElem?_pos, er54_0, er54_1, er54_2, er54_3, er54_4, er54_5, er54_6, er54_7, er54_8, er54_10, PDX_eq]
    refine hclo e hmem e.2 (.inr rfl) _ _ hk1 ?_
    simp only [hid_k]
    refine ⟨fun b _ => trivial, ?_⟩
    have hml := mapE_len f (es.take i)
    have hml2 : (es.take i).length ≤ es.length := by simp; omega
    obtain ⟨l1, H1, x1, x2, x3, x4, x5, x6⟩ := OwnE.app1 (ho.more [.cells 0 false [.int .i64 e.1, .int .i64 e.2]]) (f e.1) (f e.2) (by simp; omega) (by omega)
    simp only [List.append_assoc, List.cons_append, List.nil_append, List.length_append, List.length_cons, List.length_nil, Nat.zero_add] at x1
    by_cases q : 0 ≤ f e.1 ∧ 0 ≤ f e.2
    · rw [if_pos q] at hts
      obtain ⟨q1, q2⟩ := q
      simp [-List.getD_eq_getElem?_getD, -Int.ofNat_toNat, -getElem?_pos, er54_0, er54_1, er54_2, er54_3, er54_4, er54_5, er54_6, er54_7, er54_8, er54_10, q1, q2, x1, hw1]
      refine next_mk (k - 1) (by omega) ⟨i + 1, l1, _, _, _, _, _, H1, by omega, by rw [hts]; exact x2, ?_, ?_, ?_, fun b hb => ?_, rfl⟩
      · rw [x3 _ (by omega)]; exact g0J _
      · rw [x3 _ (by omega)]; exact get_more _ g1
      · rw [x3 _ (by omega)]; exact get_more _ g2
      · rw [x3 _ (by omega)]; exact hk1 b hb
    · rw [if_neg q, List.append_nil] at hts
      have fin : nextC (fun k st => ∃ (i : Nat) (l x a b p13 p14 : AV) (H' : Heap), i + k = es.length ∧ OwnE true (H.length + 3) H' l (mapE f (es.take i)) ∧
      H'[H.length]? = some (.cells 0 false [.int .i64 m, .fn (.func fid) [] [cap, cap2]]) ∧ H'[H.length + 1]? = some (.cells 0 false [.int .i64 N, u]) ∧ H'[H.length + 2]? = some (.cells 0 false [.int .i64 0, .nils]) ∧ (∀ b, b < H.length → H'[b]? = H[b]?) ∧
      st = ([.agg [.int .i64 m, .fn (.func fid) [] [cap, cap2]], gV N u, .ptr H.length 0 0, .ptr (H.length + 1) 0 0, .ptr (H.length + 2) 0 0, .int .i64 0, l, x, a, b, u, .int .i64 es.length, .int .i64 i, p13, p14], H')) () k
        ([.agg [.int .i64 m, .fn (.func fid) [] [cap, cap2]], gV N u, .ptr H.length 0 0, .ptr (H.length + 1) 0 0, .ptr (H.length + 2) 0 0, .int .i64 0, l, .ptr H'.length 0 0, .int .i64 (f e.1), .int .i64 (f e.2), u, .int .i64 es.length, .int .i64 ((i : Int) + 1), .bool true, .bool false], H' ++ [.cells 0 false [.int .i64 e.1, .int .i64 e.2]]) := by
        exact next_mk (k - 1) (by omega) ⟨i + 1, l, _, _, _, _, _, _, by omega, by rw [hts]; exact ho.more _, g0J _, get_more _ g1, get_more _ g2, hk1, rfl⟩
      by_cases q1 : 0 ≤ f e.1
      · have q2 : ¬ 0 ≤ f e.2 := fun h => q ⟨q1, h⟩
        simp [-List.getD_eq_getElem?_getD, -Int.ofNat_toNat, -getElem?_pos, er54_0, er54_1, er54_2, er54_3, er54_4, er54_5, er54_6, er54_7, er54_8, er54_10, q1, q2, hw1]
        simpa using fin
      · simp [-List.getD_eq_getElem?_getD, -Int.ofNat_toNat, -getElem?_pos, er54_0, er54_1, er54_2, er54_3, er54_4, er54_5, er54_6, er54_7, er54_8, er54_10, q1, hw1]
        simpa using fin
  · have hlt' : ¬ (i : Int) < es.length := by omega
    have htk : es.take i = es := List.take_of_length_le (by omega)
    rw [htk] at ho
    have hml := mapE_len f es
    have va := (Own.vw ho).r2 (closeds_cE _) (.int .i64 m) rfl
    have hbo : ∀ b, blkOf l = some b → H.length + 3 ≤ b := fun b hb => (Own.blk ho hb).1
    have hF : ∀ b, b < H.length + 3 → (frzOf H' l)[b]? = H'[b]? := fun b hb => frzOf_get _ _ (fun h => by have := hbo b h; omega)
    have hFl := frzOf_len H' l
    have i1 : IsE (rv true (mapE f es).length 2 (cellsE (mapE f es))) (mapE f es) := is_rv (cellsE_length _) (closeds_cE _)
    have c1 := (hN m _ (mapE f es) i1 (by omega)).eq
    have f0 := (hF H.length (by omega)).trans g0
    have f2 := (hF (H.length + 2) (by omega)).trans g2
    generalize frzOf H' l = F at *
    generalize hu1 : rv true (mapE f es).length 2 (cellsE (mapE f es)) = u1 at *
    have hxl := normalE_len m (mapE f es)
    simp only [nR] at c1 hk
    generalize normalE m (mapE f es) = y at *
    have iy := isE_r y.2.1
    have hset : ∀ z, (F.set (H.length + 2) z)[H.length + 2]? = some z := fun z => List.getElem?_set_self (by omega)
    simp [-List.getD_eq_getElem?_getD, -Int.ofNat_toNat, -getElem?_pos, er54_0, er54_1, er54_2, er54_3, er54_4, er54_5, er54_6, er54_7, er54_8, er54_10, hlt', g0, va, c1, f0, f2, iy.one, iy.cells, iy.closed, hset, resK, resVs, resV, pack]
    refine hk _ (fun b hb => ?_) (by simp; omega)
    rw [List.getElem?_set_ne (by omega), hF b (by omega)]; exact hold b hb
theorem w_Contract (h : Has A (φ 45) (f45 φ)) (h1 : Has A (φ 58) (f58 φ)) (h2 : Has A (φ 54) (f54 φ)) (hN : NormalC A (φ 1)) (hRc : RightC A (φ 4)) (hH : ∀ n a b v es, IsE v es → PVal A (φ 7) [gV n v, .int .i64 a, .int .i64 b] (.bool (hasE n es a b)))
    (n : Int) (v : AV) (es : List Ed) (hv : IsE v es) (a b : Int) :
    PVal A (φ 45) [gV n v, .int .i64 a, .int .i64 b] (gR (contractE n es a b)) := by
  have hone := hv.one
  have hcl := hv.closed
  have cR := (hRc n v es hv).eq
  have cH := (hH n a b v es hv).eq
  have m1 := minV_i a b
  have m2 := maxV_i a b
  have hnil : rE ([] : List Ed) = AV.nils := rfl
  have hdef : contractE n es a b = if rightE n es = false then (0, [], 1) else if min a b < 0 ∨ n ≤ max a b then (0, [], 4) else if hasE n es a b = false then (0, [], 6) else normalE (n - 1) (mapE (conI (min a b) (max a b)) es) := rfl
  generalize min a b = lo at *
  generalize max a b = hi at *
  refine pval_has h rfl ?_
  simp only [b45, f45]
  by_cases hR : rightE n es = true
  · have hn := right_len hR
    have hrb := right_ends hR
    simp [hR] at cR
    rw [if_neg (by simp [hR])] at hdef
    by_cases hb : lo < 0 ∨ n ≤ hi
    · rw [if_pos hb] at hdef
      by_cases q1 : lo < 0
      · simp [-List.getD_eq_getElem?_getD, -Int.ofNat_toNat, -getElem?_pos, er45_0, er45_1, er45_2, er45_3, er45_4, er45_5, er45_6, er45_7, er45_8, hone, hcl, cR, m1, m2, foldV, q1, hdef, hnil, resK, resVs, resV, pack, viewG0]
      · have q2 : n ≤ hi := by omega
        simp [-List.getD_eq_getElem?_getD, -Int.ofNat_toNat, -getElem?_pos, er45_0, er45_1, er45_2, er45_3, er45_4, er45_5, er45_6, er45_7, er45_8, hone, hcl, cR, m1, m2, foldV, q1, q2, hdef, hnil, resK, resVs, resV, pack, viewG0]
    · rw [if_neg hb] at hdef
      have q1 : ¬ lo < 0 := fun h => hb (.inl h)
      have q2 : ¬ n ≤ hi := fun h => hb (.inr h)
      have hw : IntKind.i64.wrap (n - 1) = n - 1 := wrap_in (by omega) (by omega)
      cases hh : hasE n es a b with
      | false =>
        rw [hh] at cH
        rw [if_pos hh] at hdef
        simp [-List.getD_eq_getElem?_getD, -Int.ofNat_toNat, -getElem?_pos, er45_0, er45_1, er45_2, er45_3, er45_4, er45_5, er45_6, er45_7, er45_8, hone, hcl, cR, cH, m1, m2, foldV, q1, q2, hdef, hnil, resK, resVs, resV, pack, viewG0]
      | true =>
        rw [hh] at cH
        rw [if_neg (by simp [hh])] at hdef
        simp [-List.getD_eq_getElem?_getD, -Int.ofNat_toNat, -getElem?_pos, er45_0, er45_1, er45_2, er45_3, er45_4, er45_5, er45_6, er45_7, er45_8, hone, hcl, cR, cH, m1, m2, foldV, q1, q2, hw]
        refine w_renamed2 h2 hN (conI lo hi) (φ 58) (.ptr 3 0 0) (.ptr 2 0 0) (n - 1) n v es hv hn.2.2 _ rfl rfl (fun e he y hy H' K' hsame hK => ?_) (fun H' hsame hle => ?_)
        · have he' := hrb e he
          refine w_Con1 h1 y lo hi (by omega) H' K' ?_ ?_ hK
          · rw [hsame 3 (by simp)]; rfl
          · rw [hsame 2 (by simp)]; rfl
        · have b1 : H'[1]? = some (.cells 0 false [.int .i64 0, .nils]) := by rw [hsame 1 (by simp)]; rfl
          have hset : ∀ z, (H'.set 1 z)[1]? = some z := fun z => List.getElem?_set_self (lt_of_get b1)
          simp only [hid_k, nR]
          rw [hdef]
          generalize normalE (n - 1) (mapE (conI lo hi) es) = y at *
          have iy := isE_r y.2.1
          simp [-List.getD_eq_getElem?_getD, -Int.ofNat_toNat, -getElem?_pos, er45_0, er45_1, er45_2, er45_3, er45_4, er45_5, er45_6, er45_7, er45_8, b1, hset, iy.one, iy.cells, iy.closed, resK, resVs, resV, pack]
  · simp only [Bool.not_eq_true] at hR
    rw [if_pos hR] at hdef
    simp [hR] at cR
    simp [-List.getD_eq_getElem?_getD, -Int.ofNat_toNat, -getElem?_pos, er45_0, er45_1, er45_2, er45_3, er45_4, er45_5, er45_6, er45_7, er45_8, hone, hcl, cR, hdef, hnil, resK, resVs, resV, pack, viewG0]
end Go.Ai.G
/- SubWrong. -/
namespace Go.Ai.G
open Go.Ai
set_option maxRecDepth 100000
set_option linter.unusedSimpArgs false
set_option linter.unusedVariables false
variable {A : AProg} {φ : Nat → Nat}
attribute [local simp ↓] getD_z getD_s hid_k hid_o hid_q hid_v PO_nil PO_none PO_grd PD_nil PD_none PD_grd PDO_N PDO_X PDO_call PDO_calli PDO_callv PStep_N PStep_X PStep_call PStep_calli PC_skip PC_lab
  PC_ret PC_exit PC_reg PC_draw PC_seq PC_block PC_loop PC_scope PC_cond thenC_norm thenC_ret thenC_exit blockC_norm blockC_ret blockC_exit loopC_norm loopC_ret loopC_exit endR_ret
  endR_norm
attribute [local simp] gz PDX_free PDX_eq PStep_callv resK_none resK_t resK_tt KNO_val KNO_new KNO_ite KNO_map KXO_some KXO_ite KVA_t KVA_f KG_skip KG_tt KG_ff KG_tf KG_ft KB_true KB_false KNOD_val
  KNOD_new KNOD_ite n_mv n_pick n_bin n_eqB n_eqN n_eqS n_un n_conv n_fadd n_faddV n_fld1 n_fldN n_idx n_idxA n_idxV n_idxAV n_ext n_lenS n_lenS0 n_lenV n_lenT n_lenA n_min n_max
  n_build n_mkfn n_slc n_slc0 n_slcV n_slcA n_load1 n_loadN n_load1V n_loadNV n_alloc n_box n_bsl n_mksl n_nilcP n_nilcV n_nilcI n_nilcF x_store x_clear0 x_clear b_add b_sub b_mul
  b_eql b_neq b_lss b_leq b_gtr b_geq b_and16 unV ntouch gather hide unhide evalOpd applyOuts int_bne int_beq ite_bool ite_int one_bool cells_bool one_int cells_int one_str cells_str
  one_nilp cells_nilp one_ptr cells_ptr one_nils cells_nils one_sl cells_sl one_nilf cells_nilf one_fn cells_fn one_nili cells_nili one_mp cells_mp one_nilm cells_nilm one_iface
  cells_iface one_vs cells_vs one_vp cells_vp cells_agg Nat.testBit setAt_1 setAt_2 closeds_nil closeds_cons closed_bool closed_int closed_str closed_nilp closed_nils closed_nilm
  closed_nilf closed_nili closed_agg closed_tup closed_vs closed_vp closed_iface closed_fn closeds_cI closeds_cE viewA_closed viewR_closed AV.scal AV.scal0 fillA repA part_bool
  part_int part_str part_nilp part_ptr part_nils part_sl part_nilm part_mp part_nilf part_fn part_nili part_iface part_agg part_vs part_vp viewA_sl1 vaSl_cells wrap_0 wrap_1 wrap_2
  wrap_m1 set_last get_last
theorem frzH_app (H : Heap) : ∀ (l1 l2 : List Nat), frzH (l1 ++ l2) H = frzH l2 (frzH l1 H) := by
  intro l1
  induction l1 generalizing H with
  | nil => intro l2; rfl
  | cons a l ih => intro l2; simp only [List.cons_append, frzH]; exact ih _ l2
theorem frz_loc {H H' : Heap} {o : AV} {b : Nat} (hl : H.length = H'.length) (h : H[b]? = H'[b]?) (hb : blkOf o = some b) : (frzOf H o)[b]? = (frzOf H' o)[b]? := by
  unfold frzOf
  rw [hb]
  simp only [frzH]
  rw [← h]
  cases hx : H[b]? with
  | none => simp only; rw [← h, hx]
  | some x =>
    have hlt := lt_of_get hx
    cases x with
    | cells gg ro c =>
      cases ro with
      | true => simp only; rw [← h, hx]
      | false => simp only; rw [List.getElem?_set_self hlt, List.getElem?_set_self (by omega)]
    | _ => simp only; rw [← h, hx]
theorem frz_comm (H : Heap) {o s : AV} (hd : ∀ b, blkOf o = some b → blkOf s ≠ some b) : frzOf (frzOf H o) s = frzOf (frzOf H s) o := by
  apply List.ext_getElem?
  intro i
  by_cases h1 : blkOf o = some i
  · have h2 := hd i h1
    rw [frzOf_get _ _ h2]
    exact frz_loc (by rw [frzOf_len]) (frzOf_get H s h2).symm h1
  · rw [frzOf_get (frzOf H s) o h1]
    by_cases h2 : blkOf s = some i
    · exact (frz_loc (by rw [frzOf_len]) (frzOf_get H o h1).symm h2).symm
    · rw [frzOf_get _ _ h2, frzOf_get _ _ h2, frzOf_get _ _ h1]
theorem Vw.two {H : Heap} {nl nl2 : Bool} {o s : AV} {n m : Nat} {c d : List AV} (h : Vw nl H o 2 n c) (hc : AV.closeds c = true) (hs : Vw nl2 H s 1 m d) (hdc : AV.closeds d = true) (hd : ∀ b, blkOf o = some b → blkOf s ≠ some b) (k : Int) :
    viewA H [.agg [.int .i64 k, o], s] = some ([.agg [.int .i64 k, rv nl n 2 c], rv nl2 m 1 d], frzOf (frzOf H o) s) := by
  rw [viewA_def]
  have e1 : reachL H fuelV [.agg [.int .i64 k, o], s] = (blkOf o).toList ++ (blkOf s).toList := by
    rw [show fuelV = 11 + 1 from rfl, reachL_cons, reachL_cons, reachL_nil, List.append_nil, show (11 : Nat) = 10 + 1 from rfl, reachV_agg, show (10 : Nat) = 9 + 1 from rfl, reachL_cons, reachL_cons, reachL_nil, List.append_nil, reachV_closed _ (by rfl), List.nil_append, show (9 : Nat) = 8 + 1 from rfl, h.reach hc, show (8 + 1 + 1 + 1 : Nat) = 10 + 1 from rfl, hs.reach hdc]
  have e2 : frzH ((blkOf o).toList ++ (blkOf s).toList) H = frzOf (frzOf H o) s := by rw [frzH_app, frzH_toList, frzH_toList]
  rw [e1, e2]
  have ho2 : Vw nl (frzOf H s) o 2 n c := h.keep fun b hb => frzOf_get H s (hd b hb)
  have hs2 : Vw nl2 (frzOf H o) s 1 m d := hs.keep fun b hb => frzOf_get H o (fun h' => hd b h' hb)
  have v1 : ∀ j, viewV (frzOf (frzOf H o) s) (j + 2) o = some (rv nl n 2 c) := fun j => by rw [frz_comm H hd]; exact ho2.seen hc j
  have v2 : ∀ j, viewV (frzOf (frzOf H o) s) (j + 2) s = some (rv nl2 m 1 d) := fun j => hs2.seen hdc j
  have w1 : viewV (frzOf (frzOf H o) s) (9 + 2) (.agg [.int .i64 k, o]) = some (.agg [.int .i64 k, rv nl n 2 c]) := by
    rw [viewV_agg, show (9 + 1 : Nat) = 8 + 2 from rfl, viewL_cons, viewV_closed _ (by rfl), viewL_cons, show (8 + 1 : Nat) = 7 + 2 from rfl, v1 7, viewL_closed _ (show AV.closeds [] = true from rfl)]
    rfl
  rw [show fuelV = 10 + 2 from rfl, viewL_cons, show (10 + 1 : Nat) = 9 + 2 from rfl, w1, viewL_cons, v2 9, viewL_closed _ (show AV.closeds [] = true from rfl)]
  rfl
structure SW (A : AProg) (φ : Nat → Nat) : Prop where
  l : SL A φ
  con : ∀ n a b v es, IsE v es → PVal A (φ 45) [gV n v, .int .i64 a, .int .i64 b] (gR (contractE n es a b))
  rright : RightC A (φ 6)
  rhas : ∀ n a b v es, IsE v es → PVal A (φ 8) [gV n v, .int .i64 a, .int .i64 b] (.bool (hasE n es a b))
end Go.Ai.G
/- GraphTurned. -/
namespace Go.Ai.G
open Go.Ai
set_option maxRecDepth 100000
set_option linter.unusedSimpArgs false
set_option linter.unusedVariables false
variable {A : AProg} {φ : Nat → Nat}
attribute [local simp ↓] getD_z getD_s hid_k hid_o hid_q hid_v PO_nil PO_none PO_grd PD_nil PD_none PD_grd PDO_N PDO_X PDO_call PDO_calli PDO_callv PStep_N PStep_X PStep_call PStep_calli PC_skip PC_lab
  PC_ret PC_exit PC_reg PC_draw PC_seq PC_block PC_loop PC_scope PC_cond thenC_norm thenC_ret thenC_exit blockC_norm blockC_ret blockC_exit loopC_norm loopC_ret loopC_exit endR_ret
  endR_norm
attribute [local simp] gz PDX_free PDX_eq PStep_callv resK_none resK_t resK_tt KNO_val KNO_new KNO_ite KNO_map KXO_some KXO_ite KVA_t KVA_f KG_skip KG_tt KG_ff KG_tf KG_ft KB_true KB_false KNOD_val
  KNOD_new KNOD_ite n_mv n_pick n_bin n_eqB n_eqN n_eqS n_un n_conv n_fadd n_faddV n_fld1 n_fldN n_idx n_idxA n_idxV n_idxAV n_ext n_lenS n_lenS0 n_lenV n_lenT n_lenA n_min n_max
  n_build n_mkfn n_slc n_slc0 n_slcV n_slcA n_load1 n_loadN n_load1V n_loadNV n_alloc n_box n_bsl n_mksl n_nilcP n_nilcV n_nilcI n_nilcF x_store x_clear0 x_clear b_add b_sub b_mul
  b_eql b_neq b_lss b_leq b_gtr b_geq b_and16 unV ntouch gather hide unhide evalOpd applyOuts int_bne int_beq ite_bool ite_int one_bool cells_bool one_int cells_int one_str cells_str
  one_nilp cells_nilp one_ptr cells_ptr one_nils cells_nils one_sl cells_sl one_nilf cells_nilf one_fn cells_fn one_nili cells_nili one_mp cells_mp one_nilm cells_nilm one_iface
  cells_iface one_vs cells_vs one_vp cells_vp cells_agg Nat.testBit setAt_1 setAt_2 closeds_nil closeds_cons closed_bool closed_int closed_str closed_nilp closed_nils closed_nilm
  closed_nilf closed_nili closed_agg closed_tup closed_vs closed_vp closed_iface closed_fn closeds_cI closeds_cE viewA_closed viewR_closed AV.scal AV.scal0 fillA repA part_bool
  part_int part_str part_nilp part_ptr part_nils part_sl part_nilm part_mp part_nilf part_fn part_nili part_iface part_agg part_vs part_vp viewA_sl1 vaSl_cells wrap_0 wrap_1 wrap_2
  wrap_m1 set_last get_last
end Go.Ai.G
/- GraphSum. -/
namespace Go.Ai.G
open Go.Ai
set_option maxRecDepth 100000
set_option linter.unusedSimpArgs false
set_option linter.unusedVariables false
variable {A : AProg} {φ : Nat → Nat}
attribute [local simp ↓] getD_z getD_s hid_k hid_o hid_q hid_v PO_nil PO_none PO_grd PD_nil PD_none PD_grd PDO_N PDO_X PDO_call PDO_calli PDO_callv PStep_N PStep_X PStep_call PStep_calli PC_skip PC_lab
  PC_ret PC_exit PC_reg PC_draw PC_seq PC_block PC_loop PC_scope PC_cond thenC_norm thenC_ret thenC_exit blockC_norm blockC_ret blockC_exit loopC_norm loopC_ret loopC_exit endR_ret
  endR_norm
attribute [local simp] gz PDX_free PDX_eq PStep_callv resK_none resK_t resK_tt KNO_val KNO_new KNO_ite KNO_map KXO_some KXO_ite KVA_t KVA_f KG_skip KG_tt KG_ff KG_tf KG_ft KB_true KB_false KNOD_val
  KNOD_new KNOD_ite n_mv n_pick n_bin n_eqB n_eqN n_eqS n_un n_conv n_fadd n_faddV n_fld1 n_fldN n_idx n_idxA n_idxV n_idxAV n_ext n_lenS n_lenS0 n_lenV n_lenT n_lenA n_min n_max
  n_build n_mkfn n_slc n_slc0 n_slcV n_slcA n_load1 n_loadN n_load1V n_loadNV n_alloc n_box n_bsl n_mksl n_nilcP n_nilcV n_nilcI n_nilcF x_store x_clear0 x_clear b_add b_sub b_mul
  b_eql b_neq b_lss b_leq b_gtr b_geq b_and16 unV ntouch gather hide unhide evalOpd applyOuts int_bne int_beq ite_bool ite_int one_bool cells_bool one_int cells_int one_str cells_str
  one_nilp cells_nilp one_ptr cells_ptr one_nils cells_nils one_sl cells_sl one_nilf cells_nilf one_fn cells_fn one_nili cells_nili one_mp cells_mp one_nilm cells_nilm one_iface
  cells_iface one_vs cells_vs one_vp cells_vp cells_agg Nat.testBit setAt_1 setAt_2 closeds_nil closeds_cons closed_bool closed_int closed_str closed_nilp closed_nils closed_nilm
  closed_nilf closed_nili closed_agg closed_tup closed_vs closed_vp closed_iface closed_fn closeds_cI closeds_cE viewA_closed viewR_closed AV.scal AV.scal0 fillA repA part_bool
  part_int part_str part_nilp part_ptr part_nils part_sl part_nilm part_mp part_nilf part_fn part_nili part_iface part_agg part_vs part_vp viewA_sl1 vaSl_cells wrap_0 wrap_1 wrap_2
  wrap_m1 set_last get_last
end Go.Ai.G
/- SubCounts, the pure law. -/
namespace Go.Ai.G
open Go.Ai
set_option maxRecDepth 100000
set_option linter.unusedSimpArgs false
set_option linter.unusedVariables false
variable {A : AProg} {φ : Nat → Nat}
theorem con_u {u w : Int} (h : u < w) : conI u w u = u := by unfold conI; rw [if_neg (by omega), if_neg (by omega)]
theorem con_pos {u w x : Int} (hu : 0 ≤ u) (hw : 0 ≤ w) (hx : 0 ≤ x) : 0 ≤ conI u w x := by
  unfold conI
  split <;> (try split) <;> omega
end Go.Ai.G
/- SubCounts, the walk. -/
namespace Go.Ai.G
open Go.Ai
set_option maxRecDepth 100000
set_option linter.unusedSimpArgs false
set_option linter.unusedVariables false
variable {A : AProg} {φ : Nat → Nat}
attribute [local simp ↓] getD_z getD_s hid_k hid_o hid_q hid_v PO_nil PO_none PO_grd PD_nil PD_none PD_grd PDO_N PDO_X PDO_call PDO_calli PDO_callv PStep_N PStep_X PStep_call PStep_calli PC_skip PC_lab
  PC_ret PC_exit PC_reg PC_draw PC_seq PC_block PC_loop PC_scope PC_cond thenC_norm thenC_ret thenC_exit blockC_norm blockC_ret blockC_exit loopC_norm loopC_ret loopC_exit endR_ret
  endR_norm
attribute [local simp] gz PDX_free PDX_eq PStep_callv resK_none resK_t resK_tt KNO_val KNO_new KNO_ite KNO_map KXO_some KXO_ite KVA_t KVA_f KG_skip KG_tt KG_ff KG_tf KG_ft KB_true KB_false KNOD_val
  KNOD_new KNOD_ite n_mv n_pick n_bin n_eqB n_eqN n_eqS n_un n_conv n_fadd n_faddV n_fld1 n_fldN n_idx n_idxA n_idxV n_idxAV n_ext n_lenS n_lenS0 n_lenV n_lenT n_lenA n_min n_max
  n_build n_mkfn n_slc n_slc0 n_slcV n_slcA n_load1 n_loadN n_load1V n_loadNV n_alloc n_box n_bsl n_mksl n_nilcP n_nilcV n_nilcI n_nilcF x_store x_clear0 x_clear b_add b_sub b_mul
  b_eql b_neq b_lss b_leq b_gtr b_geq b_and16 unV ntouch gather hide unhide evalOpd applyOuts int_bne int_beq ite_bool ite_int one_bool cells_bool one_int cells_int one_str cells_str
  one_nilp cells_nilp one_ptr cells_ptr one_nils cells_nils one_sl cells_sl one_nilf cells_nilf one_fn cells_fn one_nili cells_nili one_mp cells_mp one_nilm cells_nilm one_iface
  cells_iface one_vs cells_vs one_vp cells_vp cells_agg Nat.testBit setAt_1 setAt_2 closeds_nil closeds_cons closed_bool closed_int closed_str closed_nilp closed_nils closed_nilm
  closed_nilf closed_nili closed_agg closed_tup closed_vs closed_vp closed_iface closed_fn closeds_cI closeds_cE viewA_closed viewR_closed AV.scal AV.scal0 fillA repA part_bool
  part_int part_str part_nilp part_ptr part_nils part_sl part_nilm part_mp part_nilf part_fn part_nili part_iface part_agg part_vs part_vp viewA_sl1 vaSl_cells wrap_0 wrap_1 wrap_2
  wrap_m1 set_last get_last
end Go.Ai.G
/- ref06.Others, ref06.Delete. -/
namespace Go.Ai.G
open Go.Ai
set_option maxRecDepth 100000
set_option linter.unusedSimpArgs false
set_option linter.unusedVariables false
variable {A : AProg} {φ : Nat → Nat}
attribute [local simp ↓] getD_z getD_s hid_k hid_o hid_q hid_v PO_nil PO_none PO_grd PD_nil PD_none PD_grd PDO_N PDO_X PDO_call PDO_calli PDO_callv PStep_N PStep_X PStep_call PStep_calli PC_skip PC_lab
  PC_ret PC_exit PC_reg PC_draw PC_seq PC_block PC_loop PC_scope PC_cond thenC_norm thenC_ret thenC_exit blockC_norm blockC_ret blockC_exit loopC_norm loopC_ret loopC_exit endR_ret
  endR_norm
attribute [local simp] gz PDX_free PDX_eq PStep_callv resK_none resK_t resK_tt KNO_val KNO_new KNO_ite KNO_map KXO_some KXO_ite KVA_t KVA_f KG_skip KG_tt KG_ff KG_tf KG_ft KB_true KB_false KNOD_val
  KNOD_new KNOD_ite n_mv n_pick n_bin n_eqB n_eqN n_eqS n_un n_conv n_fadd n_faddV n_fld1 n_fldN n_idx n_idxA n_idxV n_idxAV n_ext n_lenS n_lenS0 n_lenV n_lenT n_lenA n_min n_max
  n_build n_mkfn n_slc n_slc0 n_slcV n_slcA n_load1 n_loadN n_load1V n_loadNV n_alloc n_box n_bsl n_mksl n_nilcP n_nilcV n_nilcI n_nilcF x_store x_clear0 x_clear b_add b_sub b_mul
  b_eql b_neq b_lss b_leq b_gtr b_geq b_and16 unV ntouch gather hide unhide evalOpd applyOuts int_bne int_beq ite_bool ite_int one_bool cells_bool one_int cells_int one_str cells_str
  one_nilp cells_nilp one_ptr cells_ptr one_nils cells_nils one_sl cells_sl one_nilf cells_nilf one_fn cells_fn one_nili cells_nili one_mp cells_mp one_nilm cells_nilm one_iface
  cells_iface one_vs cells_vs one_vp cells_vp cells_agg Nat.testBit setAt_1 setAt_2 closeds_nil closeds_cons closed_bool closed_int closed_str closed_nilp closed_nils closed_nilm
  closed_nilf closed_nili closed_agg closed_tup closed_vs closed_vp closed_iface closed_fn closeds_cI closeds_cE viewA_closed viewR_closed AV.scal AV.scal0 fillA repA part_bool
  part_int part_str part_nilp part_ptr part_nils part_sl part_nilm part_mp part_nilf part_fn part_nili part_iface part_agg part_vs part_vp viewA_sl1 vaSl_cells wrap_0 wrap_1 wrap_2
  wrap_m1 set_last get_last
end Go.Ai.G
/- ref06.Contract, the pure law: it answers what sub.Contract answers. -/
namespace Go.Ai.G
open Go.Ai
set_option maxRecDepth 100000
set_option linter.unusedSimpArgs false
set_option linter.unusedVariables false
variable {A : AProg} {φ : Nat → Nat}
end Go.Ai.G
/- ref06.Contract, the walk. -/
namespace Go.Ai.G
open Go.Ai
set_option maxRecDepth 100000
set_option linter.unusedSimpArgs false
set_option linter.unusedVariables false
variable {A : AProg} {φ : Nat → Nat}
attribute [local simp ↓] getD_z getD_s hid_k hid_o hid_q hid_v PO_nil PO_none PO_grd PD_nil PD_none PD_grd PDO_N PDO_X PDO_call PDO_calli PDO_callv PStep_N PStep_X PStep_call PStep_calli PC_skip PC_lab
  PC_ret PC_exit PC_reg PC_draw PC_seq PC_block PC_loop PC_scope PC_cond thenC_norm thenC_ret thenC_exit blockC_norm blockC_ret blockC_exit loopC_norm loopC_ret loopC_exit endR_ret
  endR_norm
attribute [local simp] gz PDX_free PDX_eq PStep_callv resK_none resK_t resK_tt KNO_val KNO_new KNO_ite KNO_map KXO_some KXO_ite KVA_t KVA_f KG_skip KG_tt KG_ff KG_tf KG_ft KB_true KB_false KNOD_val
  KNOD_new KNOD_ite n_mv n_pick n_bin n_eqB n_eqN n_eqS n_un n_conv n_fadd n_faddV n_fld1 n_fldN n_idx n_idxA n_idxV n_idxAV n_ext n_lenS n_lenS0 n_lenV n_lenT n_lenA n_min n_max
  n_build n_mkfn n_slc n_slc0 n_slcV n_slcA n_load1 n_loadN n_load1V n_loadNV n_alloc n_box n_bsl n_mksl n_nilcP n_nilcV n_nilcI n_nilcF x_store x_clear0 x_clear b_add b_sub b_mul
  b_eql b_neq b_lss b_leq b_gtr b_geq b_and16 unV ntouch gather hide unhide evalOpd applyOuts int_bne int_beq ite_bool ite_int one_bool cells_bool one_int cells_int one_str cells_str
  one_nilp cells_nilp one_ptr cells_ptr one_nils cells_nils one_sl cells_sl one_nilf cells_nilf one_fn cells_fn one_nili cells_nili one_mp cells_mp one_nilm cells_nilm one_iface
  cells_iface one_vs cells_vs one_vp cells_vp cells_agg Nat.testBit setAt_1 setAt_2 closeds_nil closeds_cons closed_bool closed_int closed_str closed_nilp closed_nils closed_nilm
  closed_nilf closed_nili closed_agg closed_tup closed_vs closed_vp closed_iface closed_fn closeds_cI closeds_cE viewA_closed viewR_closed AV.scal AV.scal0 fillA repA part_bool
  part_int part_str part_nilp part_ptr part_nils part_sl part_nilm part_mp part_nilf part_fn part_nili part_iface part_agg part_vs part_vp viewA_sl1 vaSl_cells wrap_0 wrap_1 wrap_2
  wrap_m1 set_last get_last
end Go.Ai.G
/- SubTells. -/
namespace Go.Ai.G
open Go.Ai
set_option maxRecDepth 100000
set_option linter.unusedSimpArgs false
set_option linter.unusedVariables false
variable {A : AProg} {φ : Nat → Nat}
attribute [local simp ↓] getD_z getD_s hid_k hid_o hid_q hid_v PO_nil PO_none PO_grd PD_nil PD_none PD_grd PDO_N PDO_X PDO_call PDO_calli PDO_callv PStep_N PStep_X PStep_call PStep_calli PC_skip PC_lab
  PC_ret PC_exit PC_reg PC_draw PC_seq PC_block PC_loop PC_scope PC_cond thenC_norm thenC_ret thenC_exit blockC_norm blockC_ret blockC_exit loopC_norm loopC_ret loopC_exit endR_ret
  endR_norm
attribute [local simp] gz PDX_free PDX_eq PStep_callv resK_none resK_t resK_tt KNO_val KNO_new KNO_ite KNO_map KXO_some KXO_ite KVA_t KVA_f KG_skip KG_tt KG_ff KG_tf KG_ft KB_true KB_false KNOD_val
  KNOD_new KNOD_ite n_mv n_pick n_bin n_eqB n_eqN n_eqS n_un n_conv n_fadd n_faddV n_fld1 n_fldN n_idx n_idxA n_idxV n_idxAV n_ext n_lenS n_lenS0 n_lenV n_lenT n_lenA n_min n_max
  n_build n_mkfn n_slc n_slc0 n_slcV n_slcA n_load1 n_loadN n_load1V n_loadNV n_alloc n_box n_bsl n_mksl n_nilcP n_nilcV n_nilcI n_nilcF x_store x_clear0 x_clear b_add b_sub b_mul
  b_eql b_neq b_lss b_leq b_gtr b_geq b_and16 unV ntouch gather hide unhide evalOpd applyOuts int_bne int_beq ite_bool ite_int one_bool cells_bool one_int cells_int one_str cells_str
  one_nilp cells_nilp one_ptr cells_ptr one_nils cells_nils one_sl cells_sl one_nilf cells_nilf one_fn cells_fn one_nili cells_nili one_mp cells_mp one_nilm cells_nilm one_iface
  cells_iface one_vs cells_vs one_vp cells_vp cells_agg Nat.testBit setAt_1 setAt_2 closeds_nil closeds_cons closed_bool closed_int closed_str closed_nilp closed_nils closed_nilm
  closed_nilf closed_nili closed_agg closed_tup closed_vs closed_vp closed_iface closed_fn closeds_cI closeds_cE viewA_closed viewR_closed AV.scal AV.scal0 fillA repA part_bool
  part_int part_str part_nilp part_ptr part_nils part_sl part_nilm part_mp part_nilf part_fn part_nili part_iface part_agg part_vs part_vp viewA_sl1 vaSl_cells wrap_0 wrap_1 wrap_2
  wrap_m1 set_last get_last
theorem contract_len (n : Int) (es : List Ed) (a b : Int) : (contractE n es a b).2.1.length ≤ 4000 := by
  unfold contractE
  split; · simp
  split; · simp
  split; · simp
  exact normalE_len _ _
end Go.Ai.G
/- SubTriangle, the pure law: three neighbours made one, by any way. -/
namespace Go.Ai.G
open Go.Ai
set_option maxRecDepth 100000
set_option linter.unusedSimpArgs false
set_option linter.unusedVariables false
variable {A : AProg} {φ : Nat → Nat}
theorem con_ok {N : Int} {E : List Ed} (hR : rightE N E = true) {u w a b : Int} (h : 0 ≤ u ∧ u < w ∧ w < N) (hm : (u, w) ∈ E) (hab : (a = u ∧ b = w) ∨ (a = w ∧ b = u)) :
    contractE N E a b = (N - 1, setE (mapE (conI u w) E), 0) ∧ rightE (N - 1) (setE (mapE (conI u w) E)) = true := by
  have hm1 : min a b = u := by omega
  have hm2 : max a b = w := by omega
  have hhas : hasE N E a b = true := (hasE_iff hR a b).2 (by
    rcases hab with ⟨rfl, rfl⟩ | ⟨rfl, rfl⟩
    · exact .inl hm
    · exact .inr hm)
  have he := right_ends hR
  have hn := right_len hR
  have hok : (mapE (conI u w) E).all (okEnds (N - 1)) = true := by
    rw [List.all_eq_true]
    intro y hy
    obtain ⟨⟨e, h1, rfl⟩, h2, h3⟩ := (mapE_mem _ _ _).1 hy
    have h0 := he e h1
    have cb : ∀ x, 0 ≤ x → x < N → conI u w x < N - 1 := fun x q1 q2 => by unfold conI; split <;> (try split) <;> omega
    have q1 := cb e.1 (by omega) (by omega)
    have q2 := cb e.2 (by omega) (by omega)
    simp only at h2 h3
    rw [okEnds, decide_eq_true (by simp only; omega), decide_eq_true (by simp only; omega)]; rfl
  have h1 := setE_le (mapE (conI u w) E)
  have h2 := mapE_len (conI u w) E
  have hno := normalE_ok (n := N - 1) (by omega) (by omega) hok (by omega)
  constructor
  · unfold contractE
    rw [if_neg (by simp [hR]), hm1, hm2, if_neg (by omega), if_neg (by simp [hhas]), hno]
  · have := @normalE_right (N - 1) (mapE (conI u w) E)
    rw [hno] at this
    exact this rfl
theorem con_edge {E : List Ed} (he : ∀ e ∈ E, 0 ≤ e.1 ∧ e.1 < e.2) {u w x y p q : Int} (hu : 0 ≤ u) (hw : 0 ≤ w) (hm : (x, y) ∈ E) (hx : conI u w x = p) (hy : conI u w y = q) (hpq : p < q) : (p, q) ∈ setE (mapE (conI u w) E) := by
  have h := he _ hm
  simp only at h
  rw [setE_mem, normsE_mem]
  refine ⟨(p, q), (mapE_mem _ _ _).2 ⟨⟨_, hm, by simp only; rw [hx, hy]⟩, ?_, ?_⟩, by simp only; omega, ?_⟩
  · have := con_pos hu hw (x := x) (by omega); simp only; omega
  · have := con_pos hu hw (x := y) (by omega); simp only; omega
  · simp only; rw [Int.min_eq_left (by omega), Int.max_eq_right (by omega)]
theorem set_comp {f g : Int → Int} {E : List Ed} (hf : ∀ x, 0 ≤ x → 0 ≤ f x) (hg : ∀ x, 0 ≤ x → 0 ≤ g x) (he : ∀ e ∈ E, 0 ≤ e.1 ∧ 0 ≤ e.2) : setE (mapE f (setE (mapE g E))) = setE (mapE (fun x => f (g x)) E) := by
  refine strict_eq _ _ (setE_strict _) (setE_strict _) fun x => ?_
  rw [setE_mem, setE_mem, normsE_mem, normsE_mem]
  have nrm : ∀ p q : Int, p ≠ q → f p ≠ f q → (f (min p q) ≠ f (max p q)) ∧ min (f (min p q)) (f (max p q)) = min (f p) (f q) ∧ max (f (min p q)) (f (max p q)) = max (f p) (f q) := by
    intro p q hpq hne
    rcases Int.lt_or_gt_of_ne hpq with h | h
    · rw [Int.min_eq_left (by omega), Int.max_eq_right (by omega)]; exact ⟨hne, rfl, rfl⟩
    · rw [Int.min_eq_right (by omega : q ≤ p), Int.max_eq_left (by omega : q ≤ p)]; exact ⟨fun h => hne h.symm, Int.min_comm _ _, Int.max_comm _ _⟩
  constructor
  · rintro ⟨y, hy, hne, rfl⟩
    obtain ⟨⟨z, hz, rfl⟩, _, _⟩ := (mapE_mem _ _ _).1 hy
    rw [setE_mem, normsE_mem] at hz
    obtain ⟨t, ht, htn, rfl⟩ := hz
    obtain ⟨⟨e, hm, rfl⟩, _, _⟩ := (mapE_mem _ _ _).1 ht
    simp only at hne htn ⊢
    have h0 := he e hm
    have hfne : f (g e.1) ≠ f (g e.2) := fun h => by
      apply hne
      rcases Int.le_total (g e.1) (g e.2) with h' | h'
      · rw [Int.min_eq_left h', Int.max_eq_right h', h]
      · rw [Int.min_eq_right h', Int.max_eq_left h', h]
    obtain ⟨_, n1, n2⟩ := nrm _ _ htn hfne
    exact ⟨(f (g e.1), f (g e.2)), (mapE_mem _ _ _).2 ⟨⟨e, hm, rfl⟩, hf _ (hg _ h0.1), hf _ (hg _ h0.2)⟩, hfne, by simp only; rw [n1, n2]⟩
  · rintro ⟨y, hy, hne, rfl⟩
    obtain ⟨⟨e, hm, rfl⟩, _, _⟩ := (mapE_mem _ _ _).1 hy
    simp only at hne ⊢
    have h0 := he e hm
    have htn : g e.1 ≠ g e.2 := fun h => hne (by rw [h])
    obtain ⟨n0, n1, n2⟩ := nrm _ _ htn hne
    have g1 := hg _ h0.1
    have g2 := hg _ h0.2
    refine ⟨(f (min (g e.1) (g e.2)), f (max (g e.1) (g e.2))), (mapE_mem _ _ _).2 ⟨⟨(min (g e.1) (g e.2), max (g e.1) (g e.2)), ?_, rfl⟩, hf _ (by omega), hf _ (by omega)⟩, n0, by simp only; rw [n1, n2]⟩
    rw [setE_mem, normsE_mem]
    exact ⟨(g e.1, g e.2), (mapE_mem _ _ _).2 ⟨⟨e, hm, rfl⟩, g1, g2⟩, htn, rfl⟩
theorem tri_law {N : Int} {E : List Ed} (hR : rightE N E = true) {p q r : Int} (h : 0 ≤ p ∧ p < q ∧ q < r ∧ r < N) (h1 : (p, q) ∈ E) (h2 : (p, r) ∈ E) (h3 : (q, r) ∈ E) :
    ∃ X1 X2 X3 Z, contractE N E p q = (N - 1, X1, 0) ∧ contractE (N - 1) X1 p (r - 1) = (N - 1 - 1, Z, 0) ∧ contractE N E p r = (N - 1, X2, 0) ∧ contractE (N - 1) X2 q p = (N - 1 - 1, Z, 0) ∧
      contractE N E r q = (N - 1, X3, 0) ∧ contractE (N - 1) X3 p q = (N - 1 - 1, Z, 0) := by
  have he := right_ends hR
  have he1 : ∀ e ∈ E, 0 ≤ e.1 ∧ e.1 < e.2 := fun e hm => ⟨(he e hm).1, (he e hm).2.1⟩
  have he2 : ∀ e ∈ E, 0 ≤ e.1 ∧ 0 ≤ e.2 := fun e hm => by have := he e hm; omega
  have cv : ∀ u w x : Int, conI u w x = if x = w then u else if w < x then x - 1 else x := fun _ _ _ => rfl
  obtain ⟨a1, a2⟩ := con_ok hR (u := p) (w := q) (a := p) (b := q) (by omega) h1 (.inl ⟨rfl, rfl⟩)
  have m1 : (p, r - 1) ∈ setE (mapE (conI p q) E) := con_edge he1 (by omega) (by omega) h2 (con_u (by omega)) (by rw [cv, if_neg (by omega), if_pos (by omega)]) (by omega)
  obtain ⟨b1, b2⟩ := con_ok a2 (u := p) (w := r - 1) (a := p) (b := r - 1) (by omega) m1 (.inl ⟨rfl, rfl⟩)
  obtain ⟨c1, c2⟩ := con_ok hR (u := p) (w := r) (a := p) (b := r) (by omega) h2 (.inl ⟨rfl, rfl⟩)
  have m2 : (p, q) ∈ setE (mapE (conI p r) E) := con_edge he1 (by omega) (by omega) h1 (con_u (by omega)) (by rw [cv, if_neg (by omega), if_neg (by omega)]) (by omega)
  obtain ⟨d1, d2⟩ := con_ok c2 (u := p) (w := q) (a := q) (b := p) (by omega) m2 (.inr ⟨rfl, rfl⟩)
  obtain ⟨e1, e2⟩ := con_ok hR (u := q) (w := r) (a := r) (b := q) (by omega) h3 (.inr ⟨rfl, rfl⟩)
  have m3 : (p, q) ∈ setE (mapE (conI q r) E) := con_edge he1 (by omega) (by omega) h1 (by rw [cv, if_neg (by omega), if_neg (by omega)]) (con_u (by omega)) (by omega)
  obtain ⟨f1, f2⟩ := con_ok e2 (u := p) (w := q) (a := p) (b := q) (by omega) m3 (.inl ⟨rfl, rfl⟩)
  have s1 := set_comp (f := conI p (r - 1)) (g := conI p q) (E := E) (fun x hx => con_pos (by omega) (by omega) hx) (fun x hx => con_pos (by omega) (by omega) hx) he2
  have s2 := set_comp (f := conI p q) (g := conI p r) (E := E) (fun x hx => con_pos (by omega) (by omega) hx) (fun x hx => con_pos (by omega) (by omega) hx) he2
  have s3 := set_comp (f := conI p q) (g := conI q r) (E := E) (fun x hx => con_pos (by omega) (by omega) hx) (fun x hx => con_pos (by omega) (by omega) hx) he2
  have g1 : (fun x => conI p (r - 1) (conI p q x)) = fun x => conI p q (conI p r x) := by
    funext x
    simp only [cv]
    repeat' split
    all_goals omega
  have g2 : (fun x => conI p q (conI q r x)) = fun x => conI p q (conI p r x) := by
    funext x
    simp only [cv]
    repeat' split
    all_goals omega
  rw [g1] at s1
  rw [g2] at s3
  rw [s1] at b1
  rw [s2] at d1
  rw [s3] at f1
  exact ⟨_, _, _, _, a1, b1, c1, d1, e1, f1⟩
/-- Three numbers in order. -/
theorem sort3 {a b c : Int} (h1 : a ≠ b) (h2 : a ≠ c) (h3 : b ≠ c) : ∃ p q r, sortI [a, b, c] = [p, q, r] ∧ p < q ∧ q < r ∧ (∀ x, x = p ∨ x = q ∨ x = r → x = a ∨ x = b ∨ x = c) := by
  have hp := sortI_perm [a, b, c]
  have hs := sortI_sorted [a, b, c]
  have hl := sortI_len [a, b, c]
  have hnd : (sortI [a, b, c]).Nodup := hp.nodup_iff.2 (by simp [h1, h2, h3])
  have hm : ∀ x, x ∈ sortI [a, b, c] → x = a ∨ x = b ∨ x = c := fun x hx => by have := hp.mem_iff.1 hx; simpa using this
  generalize sortI [a, b, c] = l at *
  match l, hl with
  | [p, q, r], _ =>
    simp only [List.pairwise_cons, List.mem_cons, List.not_mem_nil, or_false] at hs
    simp only [List.nodup_cons, List.mem_cons, List.not_mem_nil, or_false, not_or] at hnd
    have k1 := hs.1 q (.inl rfl)
    have k2 := hs.2.1 r rfl
    refine ⟨p, q, r, rfl, by omega, by omega, fun x hx => hm x (by simpa using hx)⟩
end Go.Ai.G
