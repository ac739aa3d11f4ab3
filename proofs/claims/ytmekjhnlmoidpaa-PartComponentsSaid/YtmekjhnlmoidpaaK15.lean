/- A part of what the law leans on: the abstract machine, the contracts, the rows. -/
import Derived.Test.YtmekjhnlmoidpaaK9
import Derived.Test.YtmekjhnlmoidpaaK13
import Derived.Test.YtmekjhnlmoidpaaK7
/- What graph.Has and graph.Near tell, against the reference; all contracts together. -/
namespace Go.Ai.G
open Go.Ai
set_option linter.unusedVariables false
set_option linter.unusedSimpArgs false
variable {A : AProg} {φ : Nat → Nat}
def nbo (v : Int) (x : Ed) : List Int := (if x.2 = v then [x.1] else []) ++ (if x.1 = v then [x.2] else [])
theorem nbs_all (v : Int) : ∀ (es : List Ed), es.Pairwise ltE → (∀ x ∈ es, x.1 < x.2) → nbs v es = es.flatMap (nbo v)
  | [], _, _ => rfl
  | x :: l, hp, hx => by
    rw [List.pairwise_cons] at hp
    simp only [nbs]
    split
    · rename_i h
      symm
      rw [List.flatMap_eq_nil_iff]
      intro y hy
      have hxy : x.1 ≤ y.1 := by
        rcases List.mem_cons.1 hy with rfl | hy
        · exact Int.le_refl _
        · have := hp.1 y hy; unfold ltE at this; omega
      have := hx y hy
      simp only [nbo]
      rw [if_neg (by omega), if_neg (by omega)]; rfl
    · rw [List.flatMap_cons, nbs_all v l hp.2 (fun y hy => hx y (List.mem_cons_of_mem _ hy)), nbo]
theorem nbo_sorted (v : Int) (es : List Ed) (hp : es.Pairwise ltE) (hx : ∀ x ∈ es, x.1 < x.2) : (es.flatMap (nbo v)).Pairwise (· ≤ ·) := by
  rw [List.pairwise_flatMap]
  constructor
  · intro x hm
    have := hx x hm
    unfold nbo
    by_cases h1 : x.2 = v
    · rw [if_pos h1, if_neg (by omega)]; simp
    · rw [if_neg h1]; split <;> simp
  · refine List.Pairwise.imp_of_mem ?_ hp
    intro x y hmx hmy hl p hp q hq
    have h1 := hx x hmx
    have h2 := hx y hmy
    unfold ltE at hl
    simp only [nbo, List.mem_append] at hp hq
    by_cases a1 : x.2 = v <;> by_cases a2 : x.1 = v <;> by_cases a3 : y.2 = v <;> by_cases a4 : y.1 = v <;> simp [a1, a2, a3, a4] at hp hq <;> omega
theorem nbo_perm (v : Int) : ∀ (es : List Ed), (es.flatMap (nbo v)).Perm (nbR v es)
  | [] => List.Perm.refl _
  | x :: l => by
    simp only [nbR, List.flatMap_cons]
    refine List.Perm.append ?_ (nbo_perm v l)
    unfold nbo nbr
    by_cases h1 : x.1 = v <;> by_cases h2 : x.2 = v <;> simp [h1, h2] <;> first | exact List.Perm.swap _ _ _ | exact List.Perm.refl _ | skip
theorem right_lt {n : Int} {es : List Ed} (h : rightE n es = true) : ∀ x ∈ es, x.1 < x.2 := by
  intro x hx
  obtain ⟨i, hi, rfl⟩ := List.getElem_of_mem hx
  exact (right_step h hi).2.1
theorem near_sort {n : Int} {es : List Ed} (a : Int) (h : rightE n es = true) : nbs a es = sortI (nbR a es) := by
  rw [nbs_all a es (right_strict h) (right_lt h)]
  exact (sortI_of (nbo_sorted a es (right_strict h) (right_lt h)) (nbo_perm a es)).symm
theorem has_eq (n : Int) (es : List Ed) (a b : Int) : (nearI n es a).contains b = hasE n es a b := by
  unfold nearI hasE
  cases h : rightE n es with
  | false => simp
  | true =>
    rw [if_pos rfl, nbs_all a es (right_strict h) (right_lt h), Bool.true_and, Bool.eq_iff_iff]
    simp only [List.contains_iff_mem, List.mem_flatMap, nbo, List.mem_append, Bool.or_eq_true, decide_eq_true_eq]
    constructor
    · rintro ⟨⟨x, y⟩, hm, h | h⟩
      · simp only at h; split at h
        · rename_i e; simp at h; subst h; subst e; exact .inr hm
        · simp at h
      · simp only at h; split at h
        · rename_i e; simp at h; subst h; subst e; exact .inl hm
        · simp at h
    · rintro (h | h)
      · exact ⟨_, h, .inr (by simp)⟩
      · exact ⟨_, h, .inl (by simp)⟩
end Go.Ai.G
/- The laws of the chapter on graphs. -/
namespace Go.Ai.G
open Go.Ai
set_option maxRecDepth 100000
set_option linter.unusedSimpArgs false
set_option linter.unusedVariables false
variable {A : AProg} {φ : Nat → Nat}
attribute [local simp ↓] getD_z getD_s hid_k hid_o hid_q hid_v PO_nil PO_none PO_grd PD_nil PD_none PD_grd PDO_N PDO_X PDO_call PDO_calli PDO_callv PStep_N PStep_X PStep_call PStep_calli PC_skip PC_lab
  PC_ret PC_exit PC_reg PC_draw PC_seq PC_block PC_loop PC_scope PC_cond thenC_norm thenC_ret thenC_exit blockC_norm blockC_ret blockC_exit loopC_norm loopC_ret loopC_exit endR_ret
  endR_norm
attribute [local simp] gz PDX_free PDX_eq PStep_callv resK_none resK_t resK_tt KNO_val KNO_new KNO_ite KNO_map KXO_some KXO_ite KVA_t KVA_f KG_skip KG_tt KG_ff KG_tf KG_ft KB_true KB_false KNOD_val
  KNOD_new KNOD_ite n_mv n_pick n_bin n_eqB n_eqN n_eqS n_un n_conv n_fadd n_faddV n_fld1 n_fldN n_idx n_idxA n_idxV n_idxAV n_ext n_lenS n_lenS0 n_lenV n_lenT n_lenA n_min n_max
  n_build n_mkfn n_slc n_slc0 n_slcV n_slcA n_load1 n_loadN n_load1V n_loadNV n_alloc n_box n_bsl n_mksl n_nilcP n_nilcV n_nilcI n_nilcF x_store x_clear0 x_clear b_add b_sub b_mul
  b_eql b_neq b_lss b_leq b_gtr b_geq b_and16 unV ntouch gather hide unhide evalOpd applyOuts int_bne int_beq ite_bool ite_int one_bool cells_bool one_int cells_int one_str cells_str
  one_nilp cells_nilp one_ptr cells_ptr one_nils cells_nils one_sl cells_sl one_nilf cells_nilf one_fn cells_fn one_nili cells_nili one_mp cells_mp one_nilm cells_nilm one_iface
  cells_iface one_vs cells_vs one_vp cells_vp cells_agg Nat.testBit setAt_1 setAt_2 closeds_nil closeds_cons closed_bool closed_int closed_str closed_nilp closed_nils closed_nilm
  closed_nilf closed_nili closed_agg closed_tup closed_vs closed_vp closed_iface closed_fn closeds_cI closeds_cE viewA_closed viewR_closed AV.scal AV.scal0 fillA repA part_bool
  part_int part_str part_nilp part_ptr part_nils part_sl part_nilm part_mp part_nilf part_fn part_nili part_iface part_agg part_vs part_vp viewA_sl1 vaSl_cells wrap_0 wrap_1 wrap_2
  wrap_m1 set_last get_last
theorem isE_slc {v : AV} {l : List Ed} (h : IsE v l) (m : Nat) (hm : m ≤ l.length) : ∃ v', (∀ (k : IntKind) rd, nstep (.slc 2 false true false) [v, .int k (m : Int)] rd = some (.val v')) ∧ IsE v' (l.take m) := by
  obtain ⟨h1, h2, ⟨rfl, h3⟩ | rfl⟩ := h
  · have : l = [] := List.length_eq_zero_iff.1 h3
    subst this
    have : m = 0 := by simpa using hm
    subst this
    exact ⟨.nils, fun k rd => by rfl, isE_nil⟩
  · refine ⟨vE (l.take m), fun k rd => ?_, isE_v _⟩
    have hb : bounds3 l.length l.length false true false [.int k (m : Int)] = some (0, m, l.length) := by
      simp [bounds3, intArg, hm]
    rw [n_slcV, hb]
    simp only [Option.map_some, Bool.false_eq_true, false_and, if_false, Nat.zero_mul, List.drop_zero, Nat.sub_zero, vE, cE_take, List.length_take, Nat.min_eq_left hm]
theorem right_of {n : Int} {es : List Ed} (h0 : 0 ≤ n) (h1 : n ≤ 1000) (hl : es.length ≤ 4000) (hs : es.Pairwise ltE) (he : ∀ x ∈ es, 0 ≤ x.1 ∧ x.1 < x.2 ∧ x.2 < n) : rightE n es = true := by
  unfold rightE
  rw [Bool.and_eq_true, decide_eq_true_eq, List.all_eq_true]
  refine ⟨⟨h0, h1, hl⟩, fun i hi => ?_⟩
  have hi := List.mem_range.1 hi
  obtain ⟨e1, e2, e3⟩ := he _ (List.getElem_mem hi)
  simp only [stepE, List.getD_eq_getElem?_getD, List.getElem?_eq_getElem hi, Option.getD_some, Bool.and_eq_true, decide_eq_true_eq, Bool.or_eq_true, beq_iff_eq]
  refine ⟨⟨⟨e1, e2⟩, e3⟩, ?_⟩
  by_cases e : i = 0
  · exact .inl e
  · right
    have hi1 : i - 1 < es.length := by omega
    rw [List.getElem?_eq_getElem hi1, Option.getD_some]
    exact (cmpE_neg _ _).2 (List.pairwise_iff_getElem.1 hs (i - 1) i hi1 hi (by omega))
end Go.Ai.G
/- GraphRight. -/
namespace Go.Ai.G
open Go.Ai
set_option maxRecDepth 100000
set_option linter.unusedSimpArgs false
set_option linter.unusedVariables false
variable {A : AProg} {φ : Nat → Nat}
attribute [local simp ↓] getD_z getD_s hid_k hid_o hid_q hid_v PO_nil PO_none PO_grd PD_nil PD_none PD_grd PDO_N PDO_X PDO_call PDO_calli PDO_callv PStep_N PStep_X PStep_call PStep_calli PC_skip PC_lab
  PC_ret PC_exit PC_reg PC_draw PC_seq PC_block PC_loop PC_scope PC_cond thenC_norm thenC_ret thenC_exit blockC_norm blockC_ret blockC_exit loopC_norm loopC_ret loopC_exit endR_ret
  endR_norm
attribute [local simp] gz PDX_free PDX_eq PStep_callv resK_none resK_t resK_tt KNO_val KNO_new KNO_ite KNO_map KXO_some KXO_ite KVA_t KVA_f KG_skip KG_tt KG_ff KG_tf KG_ft KB_true KB_false KNOD_val
  KNOD_new KNOD_ite n_mv n_pick n_bin n_eqB n_eqN n_eqS n_un n_conv n_fadd n_faddV n_fld1 n_fldN n_idx n_idxA n_idxV n_idxAV n_ext n_lenS n_lenS0 n_lenV n_lenT n_lenA n_min n_max
  n_build n_mkfn n_slc n_slc0 n_slcV n_slcA n_load1 n_loadN n_load1V n_loadNV n_alloc n_box n_bsl n_mksl n_nilcP n_nilcV n_nilcI n_nilcF x_store x_clear0 x_clear b_add b_sub b_mul
  b_eql b_neq b_lss b_leq b_gtr b_geq b_and16 unV ntouch gather hide unhide evalOpd applyOuts int_bne int_beq ite_bool ite_int one_bool cells_bool one_int cells_int one_str cells_str
  one_nilp cells_nilp one_ptr cells_ptr one_nils cells_nils one_sl cells_sl one_nilf cells_nilf one_fn cells_fn one_nili cells_nili one_mp cells_mp one_nilm cells_nilm one_iface
  cells_iface one_vs cells_vs one_vp cells_vp cells_agg Nat.testBit setAt_1 setAt_2 closeds_nil closeds_cons closed_bool closed_int closed_str closed_nilp closed_nils closed_nilm
  closed_nilf closed_nili closed_agg closed_tup closed_vs closed_vp closed_iface closed_fn closeds_cI closeds_cE viewA_closed viewR_closed AV.scal AV.scal0 fillA repA part_bool
  part_int part_str part_nilp part_ptr part_nils part_sl part_nilm part_mp part_nilf part_fn part_nili part_iface part_agg part_vs part_vp viewA_sl1 vaSl_cells wrap_0 wrap_1 wrap_2
  wrap_m1 set_last get_last
/-- A graph's edges, at most so many, laid anew and one's own: what a law does with the graph that it is handed. -/
theorem cut_own (n : Int) (v : AV) (l : List Ed) (hv : IsE v l) (k : Nat) (hk : k ≤ 1000000) : ∃ v' o H', (∀ (i : IntKind) rd, nstep (.slc 2 false true false) [v, .int i ((min l.length k : Nat) : Int)] rd = some (.val v')) ∧
    xstep (.app 2 16) [.sl 1 0 0 0 2 0 true, v'] [.cells 0 false [.int .i64 n, v], .cells 0 false []] = some (o, H') ∧ OwnE false 1 H' o (l.take k) ∧ H'[0]? = some (.cells 0 false [.int .i64 n, v]) ∧ blkOf o ≠ some 0 := by
  obtain ⟨v', s1, s2⟩ := isE_slc hv (min l.length k) (by omega)
  have e : l.take (min l.length k) = l.take k := by
    rcases Nat.le_total l.length k with h | h
    · rw [Nat.min_eq_left h, List.take_of_length_le h, List.take_of_length_le (Nat.le_refl _)]
    · rw [Nat.min_eq_right h]
  rw [e] at s2
  have h0 : Own false 1 ([.cells 0 false [.int .i64 n, v], .cells 0 false []] : Heap) (.sl 1 0 0 0 2 0 true) 2 0 [] := .inl ⟨rfl, rfl, 1, 0, 0, rfl⟩
  obtain ⟨o, H', x1, x2, x3, x4, x5⟩ := Own.app (bytes := 16) h0 (s2.src _) (cellsE_length _) (ones_cE _) (by simp) (by simp; omega)
  refine ⟨v', o, H', s1, x1, by simpa [OwnE, List.length_take, Nat.min_comm] using x2, ?_, fun h => ?_⟩
  · rw [x3 0 (by simp) (by simp [blkOf])]; rfl
  · rcases x5 0 h with h1 | h1
    · simp [blkOf] at h1
    · simp at h1
theorem frz_keep {H : Heap} {o : AV} {b : Nat} {x : Option Ob} (hb : blkOf o ≠ some b) (h : H[b]? = x) : (frzOf H o)[b]? = x := (frzOf_get H o hb).trans h
end Go.Ai.G
/- GraphAdds. -/
namespace Go.Ai.G
open Go.Ai
set_option maxRecDepth 100000
set_option linter.unusedSimpArgs false
set_option linter.unusedVariables false
variable {A : AProg} {φ : Nat → Nat}
attribute [local simp ↓] getD_z getD_s hid_k hid_o hid_q hid_v PO_nil PO_none PO_grd PD_nil PD_none PD_grd PDO_N PDO_X PDO_call PDO_calli PDO_callv PStep_N PStep_X PStep_call PStep_calli PC_skip PC_lab
  PC_ret PC_exit PC_reg PC_draw PC_seq PC_block PC_loop PC_scope PC_cond thenC_norm thenC_ret thenC_exit blockC_norm blockC_ret blockC_exit loopC_norm loopC_ret loopC_exit endR_ret
  endR_norm
attribute [local simp] gz PDX_free PDX_eq PStep_callv resK_none resK_t resK_tt KNO_val KNO_new KNO_ite KNO_map KXO_some KXO_ite KVA_t KVA_f KG_skip KG_tt KG_ff KG_tf KG_ft KB_true KB_false KNOD_val
  KNOD_new KNOD_ite n_mv n_pick n_bin n_eqB n_eqN n_eqS n_un n_conv n_fadd n_faddV n_fld1 n_fldN n_idx n_idxA n_idxV n_idxAV n_ext n_lenS n_lenS0 n_lenV n_lenT n_lenA n_min n_max
  n_build n_mkfn n_slc n_slc0 n_slcV n_slcA n_load1 n_loadN n_load1V n_loadNV n_alloc n_box n_bsl n_mksl n_nilcP n_nilcV n_nilcI n_nilcF x_store x_clear0 x_clear b_add b_sub b_mul
  b_eql b_neq b_lss b_leq b_gtr b_geq b_and16 unV ntouch gather hide unhide evalOpd applyOuts int_bne int_beq ite_bool ite_int one_bool cells_bool one_int cells_int one_str cells_str
  one_nilp cells_nilp one_ptr cells_ptr one_nils cells_nils one_sl cells_sl one_nilf cells_nilf one_fn cells_fn one_nili cells_nili one_mp cells_mp one_nilm cells_nilm one_iface
  cells_iface one_vs cells_vs one_vp cells_vp cells_agg Nat.testBit setAt_1 setAt_2 closeds_nil closeds_cons closed_bool closed_int closed_str closed_nilp closed_nils closed_nilm
  closed_nilf closed_nili closed_agg closed_tup closed_vs closed_vp closed_iface closed_fn closeds_cI closeds_cE viewA_closed viewR_closed AV.scal AV.scal0 fillA repA part_bool
  part_int part_str part_nilp part_ptr part_nils part_sl part_nilm part_mp part_nilf part_fn part_nili part_iface part_agg part_vs part_vp viewA_sl1 vaSl_cells wrap_0 wrap_1 wrap_2
  wrap_m1 set_last get_last
theorem get_at (F J : Heap) (k : Nat) : (F ++ J)[F.length + k]? = J[k]? := by rw [List.getElem?_append_right (by omega)]; congr 1; omega
theorem get_at0 (F J : Heap) : (F ++ J)[F.length]? = J[0]? := get_at F J 0
theorem set_at (F J : Heap) (k : Nat) (x : Ob) : (F ++ J).set (F.length + k) x = F ++ J.set k x := by rw [List.set_append_right _ _ (by omega)]; congr 2; omega
theorem set_at0 (F J : Heap) (x : Ob) : (F ++ J).set F.length x = F ++ J.set 0 x := set_at F J 0 x
end Go.Ai.G
/- GraphBack. -/
namespace Go.Ai.G
open Go.Ai
set_option maxRecDepth 100000
set_option linter.unusedSimpArgs false
set_option linter.unusedVariables false
variable {A : AProg} {φ : Nat → Nat}
attribute [local simp ↓] getD_z getD_s hid_k hid_o hid_q hid_v PO_nil PO_none PO_grd PD_nil PD_none PD_grd PDO_N PDO_X PDO_call PDO_calli PDO_callv PStep_N PStep_X PStep_call PStep_calli PC_skip PC_lab
  PC_ret PC_exit PC_reg PC_draw PC_seq PC_block PC_loop PC_scope PC_cond thenC_norm thenC_ret thenC_exit blockC_norm blockC_ret blockC_exit loopC_norm loopC_ret loopC_exit endR_ret
  endR_norm
attribute [local simp] gz PDX_free PDX_eq PStep_callv resK_none resK_t resK_tt KNO_val KNO_new KNO_ite KNO_map KXO_some KXO_ite KVA_t KVA_f KG_skip KG_tt KG_ff KG_tf KG_ft KB_true KB_false KNOD_val
  KNOD_new KNOD_ite n_mv n_pick n_bin n_eqB n_eqN n_eqS n_un n_conv n_fadd n_faddV n_fld1 n_fldN n_idx n_idxA n_idxV n_idxAV n_ext n_lenS n_lenS0 n_lenV n_lenT n_lenA n_min n_max
  n_build n_mkfn n_slc n_slc0 n_slcV n_slcA n_load1 n_loadN n_load1V n_loadNV n_alloc n_box n_bsl n_mksl n_nilcP n_nilcV n_nilcI n_nilcF x_store x_clear0 x_clear b_add b_sub b_mul
  b_eql b_neq b_lss b_leq b_gtr b_geq b_and16 unV ntouch gather hide unhide evalOpd applyOuts int_bne int_beq ite_bool ite_int one_bool cells_bool one_int cells_int one_str cells_str
  one_nilp cells_nilp one_ptr cells_ptr one_nils cells_nils one_sl cells_sl one_nilf cells_nilf one_fn cells_fn one_nili cells_nili one_mp cells_mp one_nilm cells_nilm one_iface
  cells_iface one_vs cells_vs one_vp cells_vp cells_agg Nat.testBit setAt_1 setAt_2 closeds_nil closeds_cons closed_bool closed_int closed_str closed_nilp closed_nils closed_nilm
  closed_nilf closed_nili closed_agg closed_tup closed_vs closed_vp closed_iface closed_fn closeds_cI closeds_cE viewA_closed viewR_closed AV.scal AV.scal0 fillA repA part_bool
  part_int part_str part_nilp part_ptr part_nils part_sl part_nilm part_mp part_nilf part_fn part_nili part_iface part_agg part_vs part_vp viewA_sl1 vaSl_cells wrap_0 wrap_1 wrap_2
  wrap_m1 set_last get_last
theorem right_ends {n : Int} {es : List Ed} (h : rightE n es = true) : ∀ x ∈ es, 0 ≤ x.1 ∧ x.1 < x.2 ∧ x.2 < n := by
  intro x hx
  obtain ⟨i, hi, rfl⟩ := List.getElem_of_mem hx
  exact right_step h hi
end Go.Ai.G
/- sub.names.renamed. -/
namespace Go.Ai.G
open Go.Ai
set_option maxRecDepth 100000
set_option linter.unusedSimpArgs false
set_option linter.unusedVariables false
variable {A : AProg} {φ : Nat → Nat}
attribute [local simp ↓] getD_z getD_s hid_k hid_o hid_q hid_v PO_nil PO_none PO_grd PD_nil PD_none PD_grd PDO_N PDO_X PDO_call PDO_calli PDO_callv PStep_N PStep_X PStep_call PStep_calli PC_skip PC_lab
  PC_ret PC_exit PC_reg PC_draw PC_seq PC_block PC_loop PC_scope PC_cond thenC_norm thenC_ret thenC_exit blockC_norm blockC_ret blockC_exit loopC_norm loopC_ret loopC_exit endR_ret
  endR_norm
attribute [local simp] gz PDX_free PDX_eq PStep_callv resK_none resK_t resK_tt KNO_val KNO_new KNO_ite KNO_map KXO_some KXO_ite KVA_t KVA_f KG_skip KG_tt KG_ff KG_tf KG_ft KB_true KB_false KNOD_val
  KNOD_new KNOD_ite n_mv n_pick n_bin n_eqB n_eqN n_eqS n_un n_conv n_fadd n_faddV n_fld1 n_fldN n_idx n_idxA n_idxV n_idxAV n_ext n_lenS n_lenS0 n_lenV n_lenT n_lenA n_min n_max
  n_build n_mkfn n_slc n_slc0 n_slcV n_slcA n_load1 n_loadN n_load1V n_loadNV n_alloc n_box n_bsl n_mksl n_nilcP n_nilcV n_nilcI n_nilcF x_store x_clear0 x_clear b_add b_sub b_mul
  b_eql b_neq b_lss b_leq b_gtr b_geq b_and16 unV ntouch gather hide unhide evalOpd applyOuts int_bne int_beq ite_bool ite_int one_bool cells_bool one_int cells_int one_str cells_str
  one_nilp cells_nilp one_ptr cells_ptr one_nils cells_nils one_sl cells_sl one_nilf cells_nilf one_fn cells_fn one_nili cells_nili one_mp cells_mp one_nilm cells_nilm one_iface
  cells_iface one_vs cells_vs one_vp cells_vp cells_agg Nat.testBit setAt_1 setAt_2 closeds_nil closeds_cons closed_bool closed_int closed_str closed_nilp closed_nils closed_nilm
  closed_nilf closed_nili closed_agg closed_tup closed_vs closed_vp closed_iface closed_fn closeds_cI closeds_cE viewA_closed viewR_closed AV.scal AV.scal0 fillA repA part_bool
  part_int part_str part_nilp part_ptr part_nils part_sl part_nilm part_mp part_nilf part_fn part_nili part_iface part_agg part_vs part_vp viewA_sl1 vaSl_cells wrap_0 wrap_1 wrap_2
  wrap_m1 set_last get_last
/-- The edges under other names; what has none is left out. -/
def mapE (f : Int → Int) (es : List Ed) : List Ed := (es.map fun e => (f e.1, f e.2)).filter fun e => decide (0 ≤ e.1) && decide (0 ≤ e.2)
theorem mapE_len (f : Int → Int) (es : List Ed) : (mapE f es).length ≤ es.length := by
  unfold mapE
  exact Nat.le_trans (List.length_filter_le _ _) (by simp)
end Go.Ai.G
/- sub.Induced. -/
namespace Go.Ai.G
open Go.Ai
set_option maxRecDepth 100000
set_option linter.unusedSimpArgs false
set_option linter.unusedVariables false
variable {A : AProg} {φ : Nat → Nat}
attribute [local simp ↓] getD_z getD_s hid_k hid_o hid_q hid_v PO_nil PO_none PO_grd PD_nil PD_none PD_grd PDO_N PDO_X PDO_call PDO_calli PDO_callv PStep_N PStep_X PStep_call PStep_calli PC_skip PC_lab
  PC_ret PC_exit PC_reg PC_draw PC_seq PC_block PC_loop PC_scope PC_cond thenC_norm thenC_ret thenC_exit blockC_norm blockC_ret blockC_exit loopC_norm loopC_ret loopC_exit endR_ret
  endR_norm
attribute [local simp] gz PDX_free PDX_eq PStep_callv resK_none resK_t resK_tt KNO_val KNO_new KNO_ite KNO_map KXO_some KXO_ite KVA_t KVA_f KG_skip KG_tt KG_ff KG_tf KG_ft KB_true KB_false KNOD_val
  KNOD_new KNOD_ite n_mv n_pick n_bin n_eqB n_eqN n_eqS n_un n_conv n_fadd n_faddV n_fld1 n_fldN n_idx n_idxA n_idxV n_idxAV n_ext n_lenS n_lenS0 n_lenV n_lenT n_lenA n_min n_max
  n_build n_mkfn n_slc n_slc0 n_slcV n_slcA n_load1 n_loadN n_load1V n_loadNV n_alloc n_box n_bsl n_mksl n_nilcP n_nilcV n_nilcI n_nilcF x_store x_clear0 x_clear b_add b_sub b_mul
  b_eql b_neq b_lss b_leq b_gtr b_geq b_and16 unV ntouch gather hide unhide evalOpd applyOuts int_bne int_beq ite_bool ite_int one_bool cells_bool one_int cells_int one_str cells_str
  one_nilp cells_nilp one_ptr cells_ptr one_nils cells_nils one_sl cells_sl one_nilf cells_nilf one_fn cells_fn one_nili cells_nili one_mp cells_mp one_nilm cells_nilm one_iface
  cells_iface one_vs cells_vs one_vp cells_vp cells_agg Nat.testBit setAt_1 setAt_2 closeds_nil closeds_cons closed_bool closed_int closed_str closed_nilp closed_nils closed_nilm
  closed_nilf closed_nili closed_agg closed_tup closed_vs closed_vp closed_iface closed_fn closeds_cI closeds_cE viewA_closed viewR_closed AV.scal AV.scal0 fillA repA part_bool
  part_int part_str part_nilp part_ptr part_nils part_sl part_nilm part_mp part_nilf part_fn part_nili part_iface part_agg part_vs part_vp viewA_sl1 vaSl_cells wrap_0 wrap_1 wrap_2
  wrap_m1 set_last get_last
def badI (n : Int) (x : Int) : Bool := decide (x < 0) || decide (n ≤ x)
def posI (xs : List Int) (x : Int) : Int := if x ∈ xs then (xs.idxOf x : Int) else -1
def inducedE (n : Int) (es : List Ed) (xs : List Int) : Int × List Ed × Int :=
  if rightE n es = false then (0, [], 1) else if xs.any (badI n) then (0, [], 4) else if ¬ xs.Nodup then (0, [], 1) else normalE xs.length (mapE (posI xs) es)
theorem nodup_snoc {ys : List Int} {x : Int} : (ys ++ [x]).Nodup ↔ ys.Nodup ∧ x ∉ ys := by
  rw [List.nodup_append]
  constructor
  · rintro ⟨h1, _, h2⟩; exact ⟨h1, fun h => h2 _ h _ (by simp) rfl⟩
  · rintro ⟨h1, h2⟩
    refine ⟨h1, by simp, fun a ha b hb e => ?_⟩
    simp at hb; subst hb; subst e; exact h2 ha
end Go.Ai.G
/- The reference's Induced. -/
namespace Go.Ai.G
open Go.Ai
set_option maxRecDepth 100000
set_option linter.unusedSimpArgs false
set_option linter.unusedVariables false
variable {A : AProg} {φ : Nat → Nat}
attribute [local simp ↓] getD_z getD_s hid_k hid_o hid_q hid_v PO_nil PO_none PO_grd PD_nil PD_none PD_grd PDO_N PDO_X PDO_call PDO_calli PDO_callv PStep_N PStep_X PStep_call PStep_calli PC_skip PC_lab
  PC_ret PC_exit PC_reg PC_draw PC_seq PC_block PC_loop PC_scope PC_cond thenC_norm thenC_ret thenC_exit blockC_norm blockC_ret blockC_exit loopC_norm loopC_ret loopC_exit endR_ret
  endR_norm
attribute [local simp] gz PDX_free PDX_eq PStep_callv resK_none resK_t resK_tt KNO_val KNO_new KNO_ite KNO_map KXO_some KXO_ite KVA_t KVA_f KG_skip KG_tt KG_ff KG_tf KG_ft KB_true KB_false KNOD_val
  KNOD_new KNOD_ite n_mv n_pick n_bin n_eqB n_eqN n_eqS n_un n_conv n_fadd n_faddV n_fld1 n_fldN n_idx n_idxA n_idxV n_idxAV n_ext n_lenS n_lenS0 n_lenV n_lenT n_lenA n_min n_max
  n_build n_mkfn n_slc n_slc0 n_slcV n_slcA n_load1 n_loadN n_load1V n_loadNV n_alloc n_box n_bsl n_mksl n_nilcP n_nilcV n_nilcI n_nilcF x_store x_clear0 x_clear b_add b_sub b_mul
  b_eql b_neq b_lss b_leq b_gtr b_geq b_and16 unV ntouch gather hide unhide evalOpd applyOuts int_bne int_beq ite_bool ite_int one_bool cells_bool one_int cells_int one_str cells_str
  one_nilp cells_nilp one_ptr cells_ptr one_nils cells_nils one_sl cells_sl one_nilf cells_nilf one_fn cells_fn one_nili cells_nili one_mp cells_mp one_nilm cells_nilm one_iface
  cells_iface one_vs cells_vs one_vp cells_vp cells_agg Nat.testBit setAt_1 setAt_2 closeds_nil closeds_cons closed_bool closed_int closed_str closed_nilp closed_nils closed_nilm
  closed_nilf closed_nili closed_agg closed_tup closed_vs closed_vp closed_iface closed_fn closeds_cI closeds_cE viewA_closed viewR_closed AV.scal AV.scal0 fillA repA part_bool
  part_int part_str part_nilp part_ptr part_nils part_sl part_nilm part_mp part_nilf part_fn part_nili part_iface part_agg part_vs part_vp viewA_sl1 vaSl_cells wrap_0 wrap_1 wrap_2
  wrap_m1 set_last get_last
end Go.Ai.G
/- SubInduced. -/
namespace Go.Ai.G
open Go.Ai
set_option maxRecDepth 100000
set_option linter.unusedSimpArgs false
set_option linter.unusedVariables false
variable {A : AProg} {φ : Nat → Nat}
attribute [local simp ↓] getD_z getD_s hid_k hid_o hid_q hid_v PO_nil PO_none PO_grd PD_nil PD_none PD_grd PDO_N PDO_X PDO_call PDO_calli PDO_callv PStep_N PStep_X PStep_call PStep_calli PC_skip PC_lab
  PC_ret PC_exit PC_reg PC_draw PC_seq PC_block PC_loop PC_scope PC_cond thenC_norm thenC_ret thenC_exit blockC_norm blockC_ret blockC_exit loopC_norm loopC_ret loopC_exit endR_ret
  endR_norm
attribute [local simp] gz PDX_free PDX_eq PStep_callv resK_none resK_t resK_tt KNO_val KNO_new KNO_ite KNO_map KXO_some KXO_ite KVA_t KVA_f KG_skip KG_tt KG_ff KG_tf KG_ft KB_true KB_false KNOD_val
  KNOD_new KNOD_ite n_mv n_pick n_bin n_eqB n_eqN n_eqS n_un n_conv n_fadd n_faddV n_fld1 n_fldN n_idx n_idxA n_idxV n_idxAV n_ext n_lenS n_lenS0 n_lenV n_lenT n_lenA n_min n_max
  n_build n_mkfn n_slc n_slc0 n_slcV n_slcA n_load1 n_loadN n_load1V n_loadNV n_alloc n_box n_bsl n_mksl n_nilcP n_nilcV n_nilcI n_nilcF x_store x_clear0 x_clear b_add b_sub b_mul
  b_eql b_neq b_lss b_leq b_gtr b_geq b_and16 unV ntouch gather hide unhide evalOpd applyOuts int_bne int_beq ite_bool ite_int one_bool cells_bool one_int cells_int one_str cells_str
  one_nilp cells_nilp one_ptr cells_ptr one_nils cells_nils one_sl cells_sl one_nilf cells_nilf one_fn cells_fn one_nili cells_nili one_mp cells_mp one_nilm cells_nilm one_iface
  cells_iface one_vs cells_vs one_vp cells_vp cells_agg Nat.testBit setAt_1 setAt_2 closeds_nil closeds_cons closed_bool closed_int closed_str closed_nilp closed_nils closed_nilm
  closed_nilf closed_nili closed_agg closed_tup closed_vs closed_vp closed_iface closed_fn closeds_cI closeds_cE viewA_closed viewR_closed AV.scal AV.scal0 fillA repA part_bool
  part_int part_str part_nilp part_ptr part_nils part_sl part_nilm part_mp part_nilf part_fn part_nili part_iface part_agg part_vs part_vp viewA_sl1 vaSl_cells wrap_0 wrap_1 wrap_2
  wrap_m1 set_last get_last
theorem mapE_mem (f : Int → Int) (es : List Ed) (y : Ed) : y ∈ mapE f es ↔ (∃ e ∈ es, y = (f e.1, f e.2)) ∧ 0 ≤ y.1 ∧ 0 ≤ y.2 := by
  simp only [mapE, List.mem_filter, List.mem_map, Bool.and_eq_true, decide_eq_true_eq]
  constructor
  · rintro ⟨⟨e, he, rfl⟩, h⟩; exact ⟨⟨e, he, rfl⟩, h⟩
  · rintro ⟨⟨e, he, rfl⟩, h⟩; exact ⟨⟨e, he, rfl⟩, h⟩
end Go.Ai.G
/- sub.Delete. -/
namespace Go.Ai.G
open Go.Ai
set_option maxRecDepth 100000
set_option linter.unusedSimpArgs false
set_option linter.unusedVariables false
variable {A : AProg} {φ : Nat → Nat}
attribute [local simp ↓] getD_z getD_s hid_k hid_o hid_q hid_v PO_nil PO_none PO_grd PD_nil PD_none PD_grd PDO_N PDO_X PDO_call PDO_calli PDO_callv PStep_N PStep_X PStep_call PStep_calli PC_skip PC_lab
  PC_ret PC_exit PC_reg PC_draw PC_seq PC_block PC_loop PC_scope PC_cond thenC_norm thenC_ret thenC_exit blockC_norm blockC_ret blockC_exit loopC_norm loopC_ret loopC_exit endR_ret
  endR_norm
attribute [local simp] gz PDX_free PDX_eq PStep_callv resK_none resK_t resK_tt KNO_val KNO_new KNO_ite KNO_map KXO_some KXO_ite KVA_t KVA_f KG_skip KG_tt KG_ff KG_tf KG_ft KB_true KB_false KNOD_val
  KNOD_new KNOD_ite n_mv n_pick n_bin n_eqB n_eqN n_eqS n_un n_conv n_fadd n_faddV n_fld1 n_fldN n_idx n_idxA n_idxV n_idxAV n_ext n_lenS n_lenS0 n_lenV n_lenT n_lenA n_min n_max
  n_build n_mkfn n_slc n_slc0 n_slcV n_slcA n_load1 n_loadN n_load1V n_loadNV n_alloc n_box n_bsl n_mksl n_nilcP n_nilcV n_nilcI n_nilcF x_store x_clear0 x_clear b_add b_sub b_mul
  b_eql b_neq b_lss b_leq b_gtr b_geq b_and16 unV ntouch gather hide unhide evalOpd applyOuts int_bne int_beq ite_bool ite_int one_bool cells_bool one_int cells_int one_str cells_str
  one_nilp cells_nilp one_ptr cells_ptr one_nils cells_nils one_sl cells_sl one_nilf cells_nilf one_fn cells_fn one_nili cells_nili one_mp cells_mp one_nilm cells_nilm one_iface
  cells_iface one_vs cells_vs one_vp cells_vp cells_agg Nat.testBit setAt_1 setAt_2 closeds_nil closeds_cons closed_bool closed_int closed_str closed_nilp closed_nils closed_nilm
  closed_nilf closed_nili closed_agg closed_tup closed_vs closed_vp closed_iface closed_fn closeds_cI closeds_cE viewA_closed viewR_closed AV.scal AV.scal0 fillA repA part_bool
  part_int part_str part_nilp part_ptr part_nils part_sl part_nilm part_mp part_nilf part_fn part_nili part_iface part_agg part_vs part_vp viewA_sl1 vaSl_cells wrap_0 wrap_1 wrap_2
  wrap_m1 set_last get_last
def delI (v x : Int) : Int := if x = v then -1 else if v < x then x - 1 else x
def deleteE (n : Int) (es : List Ed) (v : Int) : Int × List Ed × Int :=
  if rightE n es = false then (0, [], 1) else if badI n v then (0, [], 4) else normalE (n - 1) (mapE (delI v) es)
end Go.Ai.G
/- SubLeaves. -/
namespace Go.Ai.G
open Go.Ai
set_option maxRecDepth 100000
set_option linter.unusedSimpArgs false
set_option linter.unusedVariables false
variable {A : AProg} {φ : Nat → Nat}
def MonoI (N : Int) (f : Int → Int) : Prop := ∀ x y, 0 ≤ x → x < y → y < N → 0 ≤ f x → 0 ≤ f y → f x < f y
theorem normal_map {f : Int → Int} {N m : Int} {E : List Ed} (hR : rightE N E = true) (hf : MonoI N f) (hm : 0 ≤ m ∧ m ≤ 1000) (hlt : ∀ x, 0 ≤ x → x < N → f x < m) :
    normalE m (mapE f E) = (m, mapE f E, 0) ∧ rightE m (mapE f E) = true := by
  have hn := right_len hR
  have he := right_ends hR
  have hs := right_strict hR
  have hb : ∀ y ∈ mapE f E, 0 ≤ y.1 ∧ y.1 < y.2 ∧ y.2 < m := by
    intro y hy
    obtain ⟨⟨e, h1, rfl⟩, h2, h3⟩ := (mapE_mem _ _ _).1 hy
    obtain ⟨q1, q2, q3⟩ := he e h1
    exact ⟨h2, hf _ _ q1 q2 q3 h2 h3, hlt _ (by omega) q3⟩
  have hp : (mapE f E).Pairwise ltE := by
    unfold mapE
    rw [List.pairwise_filter, List.pairwise_map]
    refine List.Pairwise.imp_of_mem ?_ hs
    intro x y hx hy hl h1 h2
    simp only [Bool.and_eq_true, decide_eq_true_eq] at h1 h2
    have b1 := he x hx
    have b2 := he y hy
    rcases hl with hl | ⟨hl, hl2⟩
    · exact .inl (hf _ _ (by omega) hl (by omega) h1.1 h2.1)
    · exact .inr ⟨by simp only; rw [hl], hf _ _ (by omega) hl2 (by omega) h1.2 h2.2⟩
  have hok : (mapE f E).all (okEnds m) = true := by
    rw [List.all_eq_true]
    intro y hy
    have := hb y hy
    rw [okEnds, decide_eq_true (by omega), decide_eq_true (by omega)]; rfl
  have hl := mapE_len f E
  have hSe : setE (mapE f E) = mapE f E := by
    refine strict_eq _ _ (setE_strict _) hp fun x => ?_
    rw [setE_mem, normsE_mem]
    constructor
    · rintro ⟨y, hy, _, rfl⟩
      have := hb y hy
      rw [Int.min_eq_left (by omega), Int.max_eq_right (by omega)]; exact hy
    · intro hx
      have := hb x hx
      exact ⟨x, hx, by omega, by rw [Int.min_eq_left (by omega), Int.max_eq_right (by omega)]⟩
  refine ⟨?_, right_of hm.1 hm.2 (by omega) hp hb⟩
  rw [normalE_ok hm.1 hm.2 hok (by rw [hSe]; omega), hSe]
theorem mapE_congr {f g : Int → Int} : ∀ {E : List Ed}, (∀ e ∈ E, f e.1 = g e.1 ∧ f e.2 = g e.2) → mapE f E = mapE g E
  | [], _ => rfl
  | e :: l, h => by
    have h1 := h e (List.mem_cons_self ..)
    have h2 := mapE_congr (f := f) (g := g) (E := l) fun x hx => h x (List.mem_cons_of_mem _ hx)
    unfold mapE at h2 ⊢
    simp only [List.map_cons, List.filter_cons, h1.1, h1.2, h2]
theorem mapE_comp (f g : Int → Int) : ∀ (E : List Ed), mapE g (mapE f E) = mapE (fun x => if f x < 0 then -1 else g (f x)) E
  | [] => rfl
  | e :: l => by
    have h2 := mapE_comp f g l
    unfold mapE at h2 ⊢
    simp only [List.map_cons, List.filter_cons]
    by_cases q1 : f e.1 < 0
    · simp only [q1, if_true]
      rw [if_neg (by simp; omega), if_neg (by simp)]; exact h2
    · by_cases q2 : f e.2 < 0
      · simp only [q1, q2, if_true, if_false]
        rw [if_neg (by simp; omega), if_neg (by simp)]; exact h2
      · simp only [q1, q2, if_false]
        rw [if_pos (by simp; omega)]
        simp only [List.map_cons, List.filter_cons, h2]
def othersI (a b : Int) (k : Nat) : List Int := ((List.range k).filter fun (j : Nat) => decide ((j : Int) ≠ a) && decide ((j : Int) ≠ b)).map fun (j : Nat) => (j : Int)
theorem others_snoc (a b : Int) (k : Nat) : othersI a b (k + 1) = othersI a b k ++ (if (k : Int) ≠ a ∧ (k : Int) ≠ b then [(k : Int)] else []) := by
  simp only [othersI, List.range_succ, List.filter_append, List.map_append]
  congr 1
  by_cases h1 : (k : Int) = a <;> by_cases h2 : (k : Int) = b <;> simp [h1, h2]
theorem others_mem (a b : Int) (k : Nat) (x : Int) : x ∈ othersI a b k ↔ 0 ≤ x ∧ x < k ∧ x ≠ a ∧ x ≠ b := by
  simp only [othersI, List.mem_map, List.mem_filter, List.mem_range, Bool.and_eq_true, decide_eq_true_eq]
  constructor
  · rintro ⟨j, ⟨h1, h2, h3⟩, rfl⟩; exact ⟨by omega, by omega, h2, h3⟩
  · rintro ⟨h0, h1, h2, h3⟩
    exact ⟨x.toNat, ⟨by omega, by omega, by omega⟩, by omega⟩
theorem others_len {a b : Int} (ha : 0 ≤ a) (hb : 0 ≤ b) (hab : a ≠ b) : ∀ k : Nat, ((othersI a b k).length : Int) = (k : Int) - (if a < k then 1 else 0) - (if b < k then 1 else 0)
  | 0 => by rw [if_neg (by omega), if_neg (by omega)]; simp [othersI]
  | k + 1 => by
    have ih := others_len ha hb hab k
    have hL : (((if (k : Int) ≠ a ∧ (k : Int) ≠ b then [(k : Int)] else []) : List Int).length : Int) = if (k : Int) ≠ a ∧ (k : Int) ≠ b then 1 else 0 := by split <;> rfl
    rw [others_snoc, List.length_append, Int.natCast_add, hL]
    split at ih <;> split at ih <;> split <;> split <;> split <;> omega
theorem others_nodup (a b : Int) : ∀ k : Nat, (othersI a b k).Nodup
  | 0 => by simp [othersI]
  | k + 1 => by
    rw [others_snoc]
    split
    · exact nodup_snoc.2 ⟨others_nodup a b k, fun h => by have := (others_mem a b k k).1 h; omega⟩
    · rw [List.append_nil]; exact others_nodup a b k
theorem others_idx (a b : Int) (x : Nat) (hx : (x : Int) ≠ a ∧ (x : Int) ≠ b) : ∀ k : Nat, x < k → (othersI a b k).idxOf (x : Int) = (othersI a b x).length
  | 0, h => by omega
  | k + 1, h => by
    rw [others_snoc]
    rcases Nat.lt_or_ge x k with h1 | h1
    · rw [List.idxOf_append, if_pos ((others_mem a b k x).2 ⟨by omega, by omega, hx⟩)]
      exact others_idx a b x hx k h1
    · have : x = k := by omega
      subst this
      rw [if_pos hx, List.idxOf_append, if_neg (fun h => by have := (others_mem a b x x).1 h; omega)]
      simp
/-- The number of a vertex when two others have gone. -/
def twoI (lo hi x : Int) : Int := if x = lo ∨ x = hi then -1 else x - (if lo < x then 1 else 0) - (if hi < x then 1 else 0)
theorem others_pos {a b : Int} (ha : 0 ≤ a) (hb : 0 ≤ b) (hab : a ≠ b) (N : Nat) (x : Int) (h0 : 0 ≤ x) (h1 : x < N) : posI (othersI a b N) x = twoI a b x := by
  unfold posI twoI
  by_cases h : x = a ∨ x = b
  · rw [if_neg (fun hm => by have := (others_mem a b N x).1 hm; omega), if_pos h]
  · rw [if_pos ((others_mem a b N x).2 ⟨h0, h1, by omega, by omega⟩), if_neg h]
    obtain ⟨y, rfl⟩ : ∃ y : Nat, x = (y : Int) := ⟨x.toNat, by omega⟩
    rw [others_idx a b y ⟨by omega, by omega⟩ N (by omega), others_len ha hb hab y]
theorem del_mono (v N : Int) : MonoI N (delI v) := by
  intro x y h0 h1 h2 h3 h4
  unfold delI at *
  split at h3 <;> split at h4 <;> (try split at h3) <;> (try split at h4) <;> (try split) <;> (try split) <;> (try split) <;> omega
theorem two_mono {a b : Int} (hab : a ≠ b) (N : Int) : MonoI N (twoI a b) := by
  intro x y h0 h1 h2 h3 h4
  unfold twoI at *
  by_cases q1 : x = a ∨ x = b
  · rw [if_pos q1] at h3; omega
  · by_cases q2 : y = a ∨ y = b
    · rw [if_pos q2] at h4; omega
    · rw [if_neg q1, if_neg q2]
      split <;> split <;> split <;> split <;> omega
theorem leaves {N : Nat} {E : List Ed} {a b lo hi : Int} (hR : rightE N E = true) (ha : 0 ≤ a ∧ a < N) (hb : 0 ≤ b ∧ b < N) (hab : a ≠ b) (hlo : lo = min a b) (hhi : hi = max a b) :
    ∃ one three G : List Ed, deleteE N E hi = ((N : Int) - 1, one, 0) ∧ deleteE ((N : Int) - 1) one lo = ((N : Int) - 2, G, 0) ∧ deleteE N E lo = ((N : Int) - 1, three, 0) ∧ deleteE ((N : Int) - 1) three (hi - 1) = ((N : Int) - 2, G, 0) ∧ inducedE N E (othersI a b N) = ((N : Int) - 2, G, 0) := by
  have hn := right_len hR
  have hes := right_ends hR
  have hlh : 0 ≤ lo ∧ lo < hi ∧ hi < N := by omega
  have hdlt : ∀ v : Int, 0 ≤ v → v < N → ∀ x : Int, 0 ≤ x → x < N → delI v x < (N : Int) - 1 := by
    intro v h0 h1 x h2 h3
    unfold delI
    split <;> (try split) <;> omega
  have hdlt2 : ∀ v : Int, 0 ≤ v → v < (N : Int) - 1 → ∀ x : Int, 0 ≤ x → x < (N : Int) - 1 → delI v x < (N : Int) - 2 := by
    intro v h0 h1 x h2 h3
    unfold delI
    split <;> (try split) <;> omega
  obtain ⟨o1, o2⟩ := normal_map (m := (N : Int) - 1) hR (del_mono hi N) (by omega) (hdlt hi (by omega) (by omega))
  obtain ⟨t1, t2⟩ := normal_map (m := (N : Int) - 1) hR (del_mono lo N) (by omega) (hdlt lo (by omega) (by omega))
  obtain ⟨p1, p2⟩ := normal_map (m := (N : Int) - 2) o2 (del_mono lo ((N : Int) - 1)) (by omega) (hdlt2 lo (by omega) (by omega))
  obtain ⟨q1, q2⟩ := normal_map (m := (N : Int) - 2) t2 (del_mono (hi - 1) ((N : Int) - 1)) (by omega) (hdlt2 (hi - 1) (by omega) (by omega))
  have hl : ((othersI a b N).length : Int) = (N : Int) - 2 := by rw [others_len ha.1 hb.1 hab N, if_pos ha.2, if_pos hb.2]; omega
  have hpos : ∀ x : Int, 0 ≤ x → x < N → posI (othersI a b N) x = twoI a b x := fun x h0 h1 => others_pos ha.1 hb.1 hab N x h0 h1
  have e1 : mapE (delI lo) (mapE (delI hi) E) = mapE (twoI a b) E := by
    rw [mapE_comp]
    refine mapE_congr fun e he => ?_
    have := hes e he
    constructor <;> unfold delI twoI <;> (split <;> split <;> (try split) <;> (try split) <;> (try split) <;> (try split) <;> omega)
  have e2 : mapE (delI (hi - 1)) (mapE (delI lo) E) = mapE (twoI a b) E := by
    rw [mapE_comp]
    refine mapE_congr fun e he => ?_
    have := hes e he
    constructor <;> unfold delI twoI <;> (split <;> split <;> (try split) <;> (try split) <;> (try split) <;> (try split) <;> omega)
  have e3 : mapE (posI (othersI a b N)) E = mapE (twoI a b) E := by
    refine mapE_congr fun e he => ?_
    have := hes e he
    exact ⟨hpos _ (by omega) (by omega), hpos _ (by omega) (by omega)⟩
  have hbad : (othersI a b N).any (badI N) = false := by
    rw [List.any_eq_false]
    intro x hx
    have := (others_mem a b N x).1 hx
    simp only [badI, Bool.or_eq_true, decide_eq_true_eq]; omega
  have hnb : ∀ (m v : Int), 0 ≤ v → v < m → badI m v = false := by
    intro m v h0 h1
    simp only [badI, Bool.or_eq_false_iff, decide_eq_false_iff_not]; omega
  refine ⟨mapE (delI hi) E, mapE (delI lo) E, mapE (twoI a b) E, ?_, ?_, ?_, ?_, ?_⟩
  · unfold deleteE; rw [if_neg (by simp [hR]), if_neg (by rw [hnb N hi (by omega) (by omega)]; simp), o1]
  · unfold deleteE; rw [if_neg (by simp [o2]), if_neg (by rw [hnb _ lo (by omega) (by omega)]; simp), show (N : Int) - 1 - 1 = (N : Int) - 2 by omega, p1, e1]
  · unfold deleteE; rw [if_neg (by simp [hR]), if_neg (by rw [hnb N lo (by omega) (by omega)]; simp), t1]
  · unfold deleteE; rw [if_neg (by simp [t2]), if_neg (by rw [hnb _ (hi - 1) (by omega) (by omega)]; simp), show (N : Int) - 1 - 1 = (N : Int) - 2 by omega, q1, e2]
  · unfold inducedE
    rw [if_neg (by simp [hR]), if_neg (by rw [hbad]; simp), if_neg (by simp [others_nodup]), hl, e3]
    have hm := two_mono hab N
    refine (normal_map hR hm (by omega) fun x h0 h1 => ?_).1
    unfold twoI
    split
    · omega
    · split <;> split <;> omega
end Go.Ai.G
/- SubLeaves, the walk. -/
namespace Go.Ai.G
open Go.Ai
set_option maxRecDepth 100000
set_option linter.unusedSimpArgs false
set_option linter.unusedVariables false
variable {A : AProg} {φ : Nat → Nat}
attribute [local simp ↓] getD_z getD_s hid_k hid_o hid_q hid_v PO_nil PO_none PO_grd PD_nil PD_none PD_grd PDO_N PDO_X PDO_call PDO_calli PDO_callv PStep_N PStep_X PStep_call PStep_calli PC_skip PC_lab
  PC_ret PC_exit PC_reg PC_draw PC_seq PC_block PC_loop PC_scope PC_cond thenC_norm thenC_ret thenC_exit blockC_norm blockC_ret blockC_exit loopC_norm loopC_ret loopC_exit endR_ret
  endR_norm
attribute [local simp] gz PDX_free PDX_eq PStep_callv resK_none resK_t resK_tt KNO_val KNO_new KNO_ite KNO_map KXO_some KXO_ite KVA_t KVA_f KG_skip KG_tt KG_ff KG_tf KG_ft KB_true KB_false KNOD_val
  KNOD_new KNOD_ite n_mv n_pick n_bin n_eqB n_eqN n_eqS n_un n_conv n_fadd n_faddV n_fld1 n_fldN n_idx n_idxA n_idxV n_idxAV n_ext n_lenS n_lenS0 n_lenV n_lenT n_lenA n_min n_max
  n_build n_mkfn n_slc n_slc0 n_slcV n_slcA n_load1 n_loadN n_load1V n_loadNV n_alloc n_box n_bsl n_mksl n_nilcP n_nilcV n_nilcI n_nilcF x_store x_clear0 x_clear b_add b_sub b_mul
  b_eql b_neq b_lss b_leq b_gtr b_geq b_and16 unV ntouch gather hide unhide evalOpd applyOuts int_bne int_beq ite_bool ite_int one_bool cells_bool one_int cells_int one_str cells_str
  one_nilp cells_nilp one_ptr cells_ptr one_nils cells_nils one_sl cells_sl one_nilf cells_nilf one_fn cells_fn one_nili cells_nili one_mp cells_mp one_nilm cells_nilm one_iface
  cells_iface one_vs cells_vs one_vp cells_vp cells_agg Nat.testBit setAt_1 setAt_2 closeds_nil closeds_cons closed_bool closed_int closed_str closed_nilp closed_nils closed_nilm
  closed_nilf closed_nili closed_agg closed_tup closed_vs closed_vp closed_iface closed_fn closeds_cI closeds_cE viewA_closed viewR_closed AV.scal AV.scal0 fillA repA part_bool
  part_int part_str part_nilp part_ptr part_nils part_sl part_nilm part_mp part_nilf part_fn part_nili part_iface part_agg part_vs part_vp viewA_sl1 vaSl_cells wrap_0 wrap_1 wrap_2
  wrap_m1 set_last get_last
end Go.Ai.G
/- sub.Contract. -/
namespace Go.Ai.G
open Go.Ai
set_option maxRecDepth 100000
set_option linter.unusedSimpArgs false
set_option linter.unusedVariables false
variable {A : AProg} {φ : Nat → Nat}
attribute [local simp ↓] getD_z getD_s hid_k hid_o hid_q hid_v PO_nil PO_none PO_grd PD_nil PD_none PD_grd PDO_N PDO_X PDO_call PDO_calli PDO_callv PStep_N PStep_X PStep_call PStep_calli PC_skip PC_lab
  PC_ret PC_exit PC_reg PC_draw PC_seq PC_block PC_loop PC_scope PC_cond thenC_norm thenC_ret thenC_exit blockC_norm blockC_ret blockC_exit loopC_norm loopC_ret loopC_exit endR_ret
  endR_norm
attribute [local simp] gz PDX_free PDX_eq PStep_callv resK_none resK_t resK_tt KNO_val KNO_new KNO_ite KNO_map KXO_some KXO_ite KVA_t KVA_f KG_skip KG_tt KG_ff KG_tf KG_ft KB_true KB_false KNOD_val
  KNOD_new KNOD_ite n_mv n_pick n_bin n_eqB n_eqN n_eqS n_un n_conv n_fadd n_faddV n_fld1 n_fldN n_idx n_idxA n_idxV n_idxAV n_ext n_lenS n_lenS0 n_lenV n_lenT n_lenA n_min n_max
  n_build n_mkfn n_slc n_slc0 n_slcV n_slcA n_load1 n_loadN n_load1V n_loadNV n_alloc n_box n_bsl n_mksl n_nilcP n_nilcV n_nilcI n_nilcF x_store x_clear0 x_clear b_add b_sub b_mul
  b_eql b_neq b_lss b_leq b_gtr b_geq b_and16 unV ntouch gather hide unhide evalOpd applyOuts int_bne int_beq ite_bool ite_int one_bool cells_bool one_int cells_int one_str cells_str
  one_nilp cells_nilp one_ptr cells_ptr one_nils cells_nils one_sl cells_sl one_nilf cells_nilf one_fn cells_fn one_nili cells_nili one_mp cells_mp one_nilm cells_nilm one_iface
  cells_iface one_vs cells_vs one_vp cells_vp cells_agg Nat.testBit setAt_1 setAt_2 closeds_nil closeds_cons closed_bool closed_int closed_str closed_nilp closed_nils closed_nilm
  closed_nilf closed_nili closed_agg closed_tup closed_vs closed_vp closed_iface closed_fn closeds_cI closeds_cE viewA_closed viewR_closed AV.scal AV.scal0 fillA repA part_bool
  part_int part_str part_nilp part_ptr part_nils part_sl part_nilm part_mp part_nilf part_fn part_nili part_iface part_agg part_vs part_vp viewA_sl1 vaSl_cells wrap_0 wrap_1 wrap_2
  wrap_m1 set_last get_last
end Go.Ai.G
/- SubWrong. -/
namespace Go.Ai.G
open Go.Ai
set_option maxRecDepth 100000
set_option linter.unusedSimpArgs false
set_option linter.unusedVariables false
variable {A : AProg} {φ : Nat → Nat}
attribute [local simp ↓] getD_z getD_s hid_k hid_o hid_q hid_v PO_nil PO_none PO_grd PD_nil PD_none PD_grd PDO_N PDO_X PDO_call PDO_calli PDO_callv PStep_N PStep_X PStep_call PStep_calli PC_skip PC_lab
  PC_ret PC_exit PC_reg PC_draw PC_seq PC_block PC_loop PC_scope PC_cond thenC_norm thenC_ret thenC_exit blockC_norm blockC_ret blockC_exit loopC_norm loopC_ret loopC_exit endR_ret
  endR_norm
attribute [local simp] gz PDX_free PDX_eq PStep_callv resK_none resK_t resK_tt KNO_val KNO_new KNO_ite KNO_map KXO_some KXO_ite KVA_t KVA_f KG_skip KG_tt KG_ff KG_tf KG_ft KB_true KB_false KNOD_val
  KNOD_new KNOD_ite n_mv n_pick n_bin n_eqB n_eqN n_eqS n_un n_conv n_fadd n_faddV n_fld1 n_fldN n_idx n_idxA n_idxV n_idxAV n_ext n_lenS n_lenS0 n_lenV n_lenT n_lenA n_min n_max
  n_build n_mkfn n_slc n_slc0 n_slcV n_slcA n_load1 n_loadN n_load1V n_loadNV n_alloc n_box n_bsl n_mksl n_nilcP n_nilcV n_nilcI n_nilcF x_store x_clear0 x_clear b_add b_sub b_mul
  b_eql b_neq b_lss b_leq b_gtr b_geq b_and16 unV ntouch gather hide unhide evalOpd applyOuts int_bne int_beq ite_bool ite_int one_bool cells_bool one_int cells_int one_str cells_str
  one_nilp cells_nilp one_ptr cells_ptr one_nils cells_nils one_sl cells_sl one_nilf cells_nilf one_fn cells_fn one_nili cells_nili one_mp cells_mp one_nilm cells_nilm one_iface
  cells_iface one_vs cells_vs one_vp cells_vp cells_agg Nat.testBit setAt_1 setAt_2 closeds_nil closeds_cons closed_bool closed_int closed_str closed_nilp closed_nils closed_nilm
  closed_nilf closed_nili closed_agg closed_tup closed_vs closed_vp closed_iface closed_fn closeds_cI closeds_cE viewA_closed viewR_closed AV.scal AV.scal0 fillA repA part_bool
  part_int part_str part_nilp part_ptr part_nils part_sl part_nilm part_mp part_nilf part_fn part_nili part_iface part_agg part_vs part_vp viewA_sl1 vaSl_cells wrap_0 wrap_1 wrap_2
  wrap_m1 set_last get_last
theorem frzH_app (H : Heap) : ∀ (l1 l2 : List Nat), frzH (l1 ++ l2) H = frzH l2 (frzH l1 H) := by
  intro l1
  induction l1 generalizing H with
  | nil => intro l2; rfl
  | cons a l ih => intro l2; simp only [List.cons_append, frzH]; exact ih _ l2
theorem frz_loc {H H' : Heap} {o : AV} {b : Nat} (hl : H.length = H'.length) (h : H[b]? = H'[b]?) (hb : blkOf o = some b) : (frzOf H o)[b]? = (frzOf H' o)[b]? := by
  unfold frzOf
  rw [hb]
  simp only [frzH]
  rw [← h]
  cases hx : H[b]? with
  | none => simp only; rw [← h, hx]
  | some x =>
    have hlt := lt_of_get hx
    cases x with
    | cells gg ro c =>
      cases ro with
      | true => simp only; rw [← h, hx]
      | false => simp only; rw [List.getElem?_set_self hlt, List.getElem?_set_self (by omega)]
    | _ => simp only; rw [← h, hx]
theorem frz_comm (H : Heap) {o s : AV} (hd : ∀ b, blkOf o = some b → blkOf s ≠ some b) : frzOf (frzOf H o) s = frzOf (frzOf H s) o := by
  apply List.ext_getElem?
  intro i
  by_cases h1 : blkOf o = some i
  · have h2 := hd i h1
    rw [frzOf_get _ _ h2]
    exact frz_loc (by rw [frzOf_len]) (frzOf_get H s h2).symm h1
  · rw [frzOf_get (frzOf H s) o h1]
    by_cases h2 : blkOf s = some i
    · exact (frz_loc (by rw [frzOf_len]) (frzOf_get H o h1).symm h2).symm
    · rw [frzOf_get _ _ h2, frzOf_get _ _ h2, frzOf_get _ _ h1]
theorem Vw.two {H : Heap} {nl nl2 : Bool} {o s : AV} {n m : Nat} {c d : List AV} (h : Vw nl H o 2 n c) (hc : AV.closeds c = true) (hs : Vw nl2 H s 1 m d) (hdc : AV.closeds d = true) (hd : ∀ b, blkOf o = some b → blkOf s ≠ some b) (k : Int) :
    viewA H [.agg [.int .i64 k, o], s] = some ([.agg [.int .i64 k, rv nl n 2 c], rv nl2 m 1 d], frzOf (frzOf H o) s) := by
  rw [viewA_def]
  have e1 : reachL H fuelV [.agg [.int .i64 k, o], s] = (blkOf o).toList ++ (blkOf s).toList := by
    rw [show fuelV = 11 + 1 from rfl, reachL_cons, reachL_cons, reachL_nil, List.append_nil, show (11 : Nat) = 10 + 1 from rfl, reachV_agg, show (10 : Nat) = 9 + 1 from rfl, reachL_cons, reachL_cons, reachL_nil, List.append_nil, reachV_closed _ (by rfl), List.nil_append, show (9 : Nat) = 8 + 1 from rfl, h.reach hc, show (8 + 1 + 1 + 1 : Nat) = 10 + 1 from rfl, hs.reach hdc]
  have e2 : frzH ((blkOf o).toList ++ (blkOf s).toList) H = frzOf (frzOf H o) s := by rw [frzH_app, frzH_toList, frzH_toList]
  rw [e1, e2]
  have ho2 : Vw nl (frzOf H s) o 2 n c := h.keep fun b hb => frzOf_get H s (hd b hb)
  have hs2 : Vw nl2 (frzOf H o) s 1 m d := hs.keep fun b hb => frzOf_get H o (fun h' => hd b h' hb)
  have v1 : ∀ j, viewV (frzOf (frzOf H o) s) (j + 2) o = some (rv nl n 2 c) := fun j => by rw [frz_comm H hd]; exact ho2.seen hc j
  have v2 : ∀ j, viewV (frzOf (frzOf H o) s) (j + 2) s = some (rv nl2 m 1 d) := fun j => hs2.seen hdc j
  have w1 : viewV (frzOf (frzOf H o) s) (9 + 2) (.agg [.int .i64 k, o]) = some (.agg [.int .i64 k, rv nl n 2 c]) := by
    rw [viewV_agg, show (9 + 1 : Nat) = 8 + 2 from rfl, viewL_cons, viewV_closed _ (by rfl), viewL_cons, show (8 + 1 : Nat) = 7 + 2 from rfl, v1 7, viewL_closed _ (show AV.closeds [] = true from rfl)]
    rfl
  rw [show fuelV = 10 + 2 from rfl, viewL_cons, show (10 + 1 : Nat) = 9 + 2 from rfl, w1, viewL_cons, v2 9, viewL_closed _ (show AV.closeds [] = true from rfl)]
  rfl
end Go.Ai.G
/- GraphTurned. -/
namespace Go.Ai.G
open Go.Ai
set_option maxRecDepth 100000
set_option linter.unusedSimpArgs false
set_option linter.unusedVariables false
variable {A : AProg} {φ : Nat → Nat}
attribute [local simp ↓] getD_z getD_s hid_k hid_o hid_q hid_v PO_nil PO_none PO_grd PD_nil PD_none PD_grd PDO_N PDO_X PDO_call PDO_calli PDO_callv PStep_N PStep_X PStep_call PStep_calli PC_skip PC_lab
  PC_ret PC_exit PC_reg PC_draw PC_seq PC_block PC_loop PC_scope PC_cond thenC_norm thenC_ret thenC_exit blockC_norm blockC_ret blockC_exit loopC_norm loopC_ret loopC_exit endR_ret
  endR_norm
attribute [local simp] gz PDX_free PDX_eq PStep_callv resK_none resK_t resK_tt KNO_val KNO_new KNO_ite KNO_map KXO_some KXO_ite KVA_t KVA_f KG_skip KG_tt KG_ff KG_tf KG_ft KB_true KB_false KNOD_val
  KNOD_new KNOD_ite n_mv n_pick n_bin n_eqB n_eqN n_eqS n_un n_conv n_fadd n_faddV n_fld1 n_fldN n_idx n_idxA n_idxV n_idxAV n_ext n_lenS n_lenS0 n_lenV n_lenT n_lenA n_min n_max
  n_build n_mkfn n_slc n_slc0 n_slcV n_slcA n_load1 n_loadN n_load1V n_loadNV n_alloc n_box n_bsl n_mksl n_nilcP n_nilcV n_nilcI n_nilcF x_store x_clear0 x_clear b_add b_sub b_mul
  b_eql b_neq b_lss b_leq b_gtr b_geq b_and16 unV ntouch gather hide unhide evalOpd applyOuts int_bne int_beq ite_bool ite_int one_bool cells_bool one_int cells_int one_str cells_str
  one_nilp cells_nilp one_ptr cells_ptr one_nils cells_nils one_sl cells_sl one_nilf cells_nilf one_fn cells_fn one_nili cells_nili one_mp cells_mp one_nilm cells_nilm one_iface
  cells_iface one_vs cells_vs one_vp cells_vp cells_agg Nat.testBit setAt_1 setAt_2 closeds_nil closeds_cons closed_bool closed_int closed_str closed_nilp closed_nils closed_nilm
  closed_nilf closed_nili closed_agg closed_tup closed_vs closed_vp closed_iface closed_fn closeds_cI closeds_cE viewA_closed viewR_closed AV.scal AV.scal0 fillA repA part_bool
  part_int part_str part_nilp part_ptr part_nils part_sl part_nilm part_mp part_nilf part_fn part_nili part_iface part_agg part_vs part_vp viewA_sl1 vaSl_cells wrap_0 wrap_1 wrap_2
  wrap_m1 set_last get_last
end Go.Ai.G
/- GraphSum. -/
namespace Go.Ai.G
open Go.Ai
set_option maxRecDepth 100000
set_option linter.unusedSimpArgs false
set_option linter.unusedVariables false
variable {A : AProg} {φ : Nat → Nat}
attribute [local simp ↓] getD_z getD_s hid_k hid_o hid_q hid_v PO_nil PO_none PO_grd PD_nil PD_none PD_grd PDO_N PDO_X PDO_call PDO_calli PDO_callv PStep_N PStep_X PStep_call PStep_calli PC_skip PC_lab
  PC_ret PC_exit PC_reg PC_draw PC_seq PC_block PC_loop PC_scope PC_cond thenC_norm thenC_ret thenC_exit blockC_norm blockC_ret blockC_exit loopC_norm loopC_ret loopC_exit endR_ret
  endR_norm
attribute [local simp] gz PDX_free PDX_eq PStep_callv resK_none resK_t resK_tt KNO_val KNO_new KNO_ite KNO_map KXO_some KXO_ite KVA_t KVA_f KG_skip KG_tt KG_ff KG_tf KG_ft KB_true KB_false KNOD_val
  KNOD_new KNOD_ite n_mv n_pick n_bin n_eqB n_eqN n_eqS n_un n_conv n_fadd n_faddV n_fld1 n_fldN n_idx n_idxA n_idxV n_idxAV n_ext n_lenS n_lenS0 n_lenV n_lenT n_lenA n_min n_max
  n_build n_mkfn n_slc n_slc0 n_slcV n_slcA n_load1 n_loadN n_load1V n_loadNV n_alloc n_box n_bsl n_mksl n_nilcP n_nilcV n_nilcI n_nilcF x_store x_clear0 x_clear b_add b_sub b_mul
  b_eql b_neq b_lss b_leq b_gtr b_geq b_and16 unV ntouch gather hide unhide evalOpd applyOuts int_bne int_beq ite_bool ite_int one_bool cells_bool one_int cells_int one_str cells_str
  one_nilp cells_nilp one_ptr cells_ptr one_nils cells_nils one_sl cells_sl one_nilf cells_nilf one_fn cells_fn one_nili cells_nili one_mp cells_mp one_nilm cells_nilm one_iface
  cells_iface one_vs cells_vs one_vp cells_vp cells_agg Nat.testBit setAt_1 setAt_2 closeds_nil closeds_cons closed_bool closed_int closed_str closed_nilp closed_nils closed_nilm
  closed_nilf closed_nili closed_agg closed_tup closed_vs closed_vp closed_iface closed_fn closeds_cI closeds_cE viewA_closed viewR_closed AV.scal AV.scal0 fillA repA part_bool
  part_int part_str part_nilp part_ptr part_nils part_sl part_nilm part_mp part_nilf part_fn part_nili part_iface part_agg part_vs part_vp viewA_sl1 vaSl_cells wrap_0 wrap_1 wrap_2
  wrap_m1 set_last get_last
theorem nb_mem {n : Int} {es : List Ed} (hR : rightE n es = true) (v w : Int) : w ∈ sortI (nbR v es) ↔ (v, w) ∈ es ∨ (w, v) ∈ es := by
  have := has_eq n es v w
  unfold nearI hasE at this
  rw [hR, if_pos rfl, near_sort v hR, Bool.true_and] at this
  rw [← List.contains_iff_mem, this]
  simp
end Go.Ai.G
/- SubCounts, the pure law. -/
namespace Go.Ai.G
open Go.Ai
set_option maxRecDepth 100000
set_option linter.unusedSimpArgs false
set_option linter.unusedVariables false
variable {A : AProg} {φ : Nat → Nat}
theorem len_of_mem {α : Type} [DecidableEq α] : ∀ (l m : List α), l.Nodup → m.Nodup → (∀ x, x ∈ l ↔ x ∈ m) → l.length = m.length
  | [], m, _, _, h => by
    cases m with
    | nil => rfl
    | cons y m => have := (h y).2 (List.mem_cons_self ..); simp at this
  | x :: l, m, hl, hm, h => by
    rw [List.nodup_cons] at hl
    have hx : x ∈ m := (h x).1 (List.mem_cons_self ..)
    have he := len_of_mem l (m.erase x) hl.2 (hm.erase x) fun y => by
      rw [hm.mem_erase_iff]
      constructor
      · intro hy
        exact ⟨fun e => hl.1 (e ▸ hy), (h y).1 (List.mem_cons_of_mem _ hy)⟩
      · rintro ⟨h1, h2⟩
        rcases List.mem_cons.1 ((h y).2 h2) with h3 | h3
        · exact absurd h3 h1
        · exact h3
    rw [List.length_erase_of_mem hx] at he
    have := List.length_pos_of_mem hx
    simp only [List.length_cons]; omega
end Go.Ai.G
