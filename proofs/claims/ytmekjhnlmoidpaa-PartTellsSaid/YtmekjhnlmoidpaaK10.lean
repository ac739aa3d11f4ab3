/- A part of what the law leans on: the abstract machine, the contracts, the rows. -/
import Derived.Test.YtmekjhnlmoidpaaK9
namespace Go.Ai.G
open Go.Ai
set_option maxRecDepth 100000
set_option linter.unusedSimpArgs false
set_option linter.unusedVariables false
variable {A : AProg} {φ : Nat → Nat}
attribute [local simp ↓] getD_z getD_s hid_k hid_o hid_q hid_v PO_nil PO_none PO_grd PD_nil PD_none PD_grd PDO_N PDO_X PDO_call PDO_calli PDO_callv PStep_N PStep_X PStep_call PStep_calli PC_skip PC_lab
  PC_ret PC_exit PC_reg PC_draw PC_seq PC_block PC_loop PC_scope PC_cond thenC_norm thenC_ret thenC_exit blockC_norm blockC_ret blockC_exit loopC_norm loopC_ret loopC_exit endR_ret
  endR_norm
attribute [local simp] gz PDX_free PDX_eq PStep_callv resK_none resK_t resK_tt KNO_val KNO_new KNO_ite KNO_map KXO_some KXO_ite KVA_t KVA_f KG_skip KG_tt KG_ff KG_tf KG_ft KB_true KB_false KNOD_val
  KNOD_new KNOD_ite n_mv n_pick n_bin n_eqB n_eqN n_eqS n_un n_conv n_fadd n_faddV n_fld1 n_fldN n_idx n_idxA n_idxV n_idxAV n_ext n_lenS n_lenS0 n_lenV n_lenT n_lenA n_min n_max
  n_build n_mkfn n_slc n_slc0 n_slcV n_slcA n_load1 n_loadN n_load1V n_loadNV n_alloc n_box n_bsl n_mksl n_nilcP n_nilcV n_nilcI n_nilcF x_store x_clear0 x_clear b_add b_sub b_mul
  b_eql b_neq b_lss b_leq b_gtr b_geq b_and16 unV ntouch gather hide unhide evalOpd applyOuts int_bne int_beq ite_bool ite_int one_bool cells_bool one_int cells_int one_str cells_str
  one_nilp cells_nilp one_ptr cells_ptr one_nils cells_nils one_sl cells_sl one_nilf cells_nilf one_fn cells_fn one_nili cells_nili one_mp cells_mp one_nilm cells_nilm one_iface
  cells_iface one_vs cells_vs one_vp cells_vp cells_agg Nat.testBit setAt_1 setAt_2 closeds_nil closeds_cons closed_bool closed_int closed_str closed_nilp closed_nils closed_nilm
  closed_nilf closed_nili closed_agg closed_tup closed_vs closed_vp closed_iface closed_fn closeds_cI closeds_cE viewA_closed viewR_closed AV.scal AV.scal0 fillA repA part_bool
  part_int part_str part_nilp part_ptr part_nils part_sl part_nilm part_mp part_nilf part_fn part_nili part_iface part_agg part_vs part_vp viewA_sl1 vaSl_cells wrap_0 wrap_1 wrap_2
  wrap_m1 set_last get_last
theorem er32_0 (φ : Nat → Nat) : r32_0 φ = [
  ⟨0, .N .mv, [.c (.nils)], none, 0⟩] := Eq.trans rfl rfl
theorem er32_1 (φ : Nat → Nat) : r32_1 φ = [
  ⟨0, .N .mv, [.n 0], none, 0⟩,
  ⟨1, .N (.eqN 1 false), [.l 0, .c (.nils)], none, 0⟩] := Eq.trans rfl rfl
theorem er32_2 (φ : Nat → Nat) : r32_2 φ = [
  ⟨0, .N .mv, [.c (.nils)], none, 0⟩] := Eq.trans rfl rfl
theorem er32_3 (φ : Nat → Nat) : r32_3 φ = [
  ⟨0, .N (.bsl [.int .i64 0, .int .i64 0] 0 2 []), [], none, 0⟩,
  ⟨1, .N .mv, [.n 0], none, 0⟩,
  ⟨2, .X (.app 2 16), [.l 1, .l 0], none, 0⟩,
  ⟨3, .N .mv, [.l 0], none, 0⟩] := Eq.trans rfl rfl
theorem er33_0 (φ : Nat → Nat) : r33_0 φ = [
  ⟨0, .N .box, [.n 1], none, 0⟩,
  ⟨1, .N .mv, [.c (.int .i64 0)], none, 0⟩] := Eq.trans rfl rfl
theorem er33_1 (φ : Nat → Nat) : r33_1 φ = [
  ⟨0, .N .mv, [.n 0], none, 0⟩,
  ⟨1, .N .lenS, [.l 0], none, 0⟩,
  ⟨2, .N .mv, [.c (.int .i64 0)], none, 0⟩] := Eq.trans rfl rfl
theorem er33_2 (φ : Nat → Nat) : r33_2 φ = [
  ⟨0, .N (.bin .lss), [.n 6, .n 5], none, 0⟩] := Eq.trans rfl rfl
theorem er33_3 (φ : Nat → Nat) : r33_3 φ = [
  ⟨0, .N .mv, [.n 6], none, 0⟩,
  ⟨1, .N .mv, [.l 0], none, 0⟩] := Eq.trans rfl rfl
theorem er33_4 (φ : Nat → Nat) : r33_4 φ = [
  ⟨0, .N (.loadN 2), [.n 2], none, 0⟩,
  ⟨1, .N .mv, [.n 0], none, 0⟩,
  ⟨2, .N .mv, [.n 4], none, 0⟩,
  ⟨3, .N (.idx 2), [.l 1, .l 0], none, 6⟩,
  ⟨4, .N (.loadN 2), [.l 0], none, 14⟩,
  ⟨5, .N (.eqS [1, 1] false), [.l 4, .l 0], none, 31⟩] := Eq.trans rfl rfl
theorem er33_5 (φ : Nat → Nat) : r33_5 φ = [
  ⟨0, .N .mv, [.n 4], none, 0⟩,
  ⟨1, .N .mv, [.l 0], none, 0⟩] := Eq.trans rfl rfl
theorem er33_6 (φ : Nat → Nat) : r33_6 φ = [
  ⟨0, .N (.bin .add), [.n 6, .c (.int .i64 1)], none, 0⟩,
  ⟨1, .N .mv, [.l 0], none, 0⟩] := Eq.trans rfl rfl
theorem er33_8 (φ : Nat → Nat) : r33_8 φ = [
  ⟨0, .N .mv, [.c (.int .i64 (-1))], none, 0⟩] := Eq.trans rfl rfl
theorem er34_0 (φ : Nat → Nat) : r34_0 φ = [
  ⟨0, .N .mv, [.c (.nils)], none, 0⟩] := Eq.trans rfl rfl
theorem er34_1 (φ : Nat → Nat) : r34_1 φ = [
  ⟨0, .N .mv, [.n 0], none, 0⟩,
  ⟨1, .N .mv, [.n 1], none, 0⟩,
  ⟨2, .N .mv, [.n 2], none, 0⟩,
  ⟨3, .N .mv, [.n 0], none, 0⟩,
  ⟨4, .N .lenS, [.l 0], none, 0⟩,
  ⟨5, .N (.slc 2 true true true), [.l 4, .l 3, .l 2, .l 0], none, 0⟩] := Eq.trans rfl rfl
theorem er34_2 (φ : Nat → Nat) : r34_2 φ = [
  ⟨0, .N .mv, [.n 1], none, 0⟩,
  ⟨1, .N .mv, [.n 2], none, 0⟩,
  ⟨2, .N (.bin .eql), [.l 1, .l 0], none, 0⟩] := Eq.trans rfl rfl
theorem er34_3 (φ : Nat → Nat) : r34_3 φ = [
  ⟨0, .N .mv, [.n 0], none, 0⟩,
  ⟨1, .N .mv, [.l 0], none, 0⟩] := Eq.trans rfl rfl
theorem er34_4 (φ : Nat → Nat) : r34_4 φ = [
  ⟨0, .N .mv, [.n 0], none, 0⟩,
  ⟨1, .N .lenS, [.l 0], none, 0⟩,
  ⟨2, .N .mv, [.l 0], none, 0⟩] := Eq.trans rfl rfl
theorem er34_5 (φ : Nat → Nat) : r34_5 φ = [
  ⟨0, .N .mv, [.n 0], none, 0⟩,
  ⟨1, .N .mv, [.n 1], none, 0⟩,
  ⟨2, .N (.slc 2 false true false), [.l 1, .l 0], none, 3⟩,
  ⟨3, .N .mv, [.n 0], none, 0⟩,
  ⟨4, .N .mv, [.n 2], none, 0⟩,
  ⟨5, .N (.slc 2 true false false), [.l 1, .l 0], none, 24⟩,
  ⟨6, .X (.app 2 16), [.l 3, .l 0], none, 63⟩,
  ⟨7, .N .mv, [.l 0], none, 127⟩] := Eq.trans rfl rfl
theorem er34_6 (φ : Nat → Nat) : r34_6 φ = [
  ⟨0, .N .mv, [.n 0], none, 0⟩,
  ⟨1, .N .mv, [.n 0], none, 0⟩,
  ⟨2, .N .lenS, [.l 0], none, 0⟩,
  ⟨3, .N .mv, [.n 4], none, 0⟩,
  ⟨4, .N (.slc 2 true true false), [.l 3, .l 1, .l 0], none, 0⟩,
  ⟨5, .X (.clear 2 [.int .i64 0, .int .i64 0]), [.l 0], none, 0⟩] := Eq.trans rfl rfl
theorem er34_7 (φ : Nat → Nat) : r34_7 φ = [
  ⟨0, .N .mv, [.n 0], none, 0⟩,
  ⟨1, .N .mv, [.l 0], none, 0⟩] := Eq.trans rfl rfl
theorem er22_0 (φ : Nat → Nat) : r22_0 φ = [
  ⟨0, .N (.alloc [.int .i64 0, .nils]), [], none, 0⟩] := Eq.trans rfl rfl
theorem er22_1 (φ : Nat → Nat) : r22_1 φ = [
  ⟨0, .N .mv, [.n 0], none, 0⟩,
  ⟨1, .N (.bin .and), [.l 0, .c (.int .i64 65535)], none, 0⟩,
  ⟨2, .N .mv, [.n 2], none, 0⟩,
  ⟨3, .N (.bin .add), [.l 0, .c (.int .i64 1)], none, 0⟩,
  ⟨4, .N (.bin .rem), [.l 2, .l 0], none, 0⟩,
  ⟨5, .N .mv, [.l 0], none, 0⟩] := Eq.trans rfl rfl
theorem er22_2 (φ : Nat → Nat) : r22_2 φ = [
  ⟨0, .N .mv, [.c (.nils)], none, 0⟩] := Eq.trans rfl rfl
theorem er22_3 (φ : Nat → Nat) : r22_3 φ = [
  ⟨0, .N .mv, [.c (.int .i64 0)], none, 0⟩] := Eq.trans rfl rfl
theorem er22_4 (φ : Nat → Nat) : r22_4 φ = [
  ⟨0, .N .mv, [.n 5], none, 0⟩,
  ⟨1, .N .mv, [.n 1], none, 0⟩,
  ⟨2, .N .lenS, [.l 0], none, 0⟩,
  ⟨3, .N (.bin .lss), [.l 2, .l 0], none, 0⟩,
  ⟨4, .N .mv, [.l 0], none, 0⟩,
  ⟨5, .N .mv, [.n 5], some (.l 0, true), 0⟩,
  ⟨6, .N (.bin .lss), [.l 0, .c (.int .i64 300)], some (.l 1, true), 0⟩,
  ⟨7, .N .pick, [.l 2, .l 0, .c (.bool false)], none, 0⟩,
  ⟨8, .N .mv, [.l 0], none, 0⟩,
  ⟨9, .N .mv, [.n 0], some (.l 0, true), 0⟩,
  ⟨10, .N (.bin .gtr), [.l 0, .c (.int .i64 0)], some (.l 1, true), 0⟩,
  ⟨11, .N .pick, [.l 2, .l 0, .c (.bool false)], none, 0⟩] := Eq.trans rfl rfl
theorem er22_5 (φ : Nat → Nat) : r22_5 φ = [
  ⟨0, .N .mv, [.n 4], none, 0⟩,
  ⟨1, .N .mv, [.n 1], none, 0⟩,
  ⟨2, .N .mv, [.n 5], none, 0⟩,
  ⟨3, .N (.idx 2), [.l 1, .l 0], none, 6⟩,
  ⟨4, .N (.fadd 0), [.l 0], none, 14⟩,
  ⟨5, .N .load1, [.l 0], none, 30⟩,
  ⟨6, .N (.bin .and), [.l 0, .c (.int .i64 65535)], none, 62⟩,
  ⟨7, .N .mv, [.n 0], none, 0⟩,
  ⟨8, .N (.bin .rem), [.l 1, .l 0], none, 254⟩,
  ⟨9, .N .mv, [.n 1], none, 0⟩,
  ⟨10, .N .mv, [.n 5], none, 0⟩,
  ⟨11, .N (.idx 2), [.l 1, .l 0], none, 1536⟩,
  ⟨12, .N (.fadd 1), [.l 0], none, 3584⟩,
  ⟨13, .N .load1, [.l 0], none, 7680⟩,
  ⟨14, .N (.bin .and), [.l 0, .c (.int .i64 65535)], none, 15872⟩,
  ⟨15, .N .mv, [.n 0], none, 0⟩,
  ⟨16, .N (.bin .rem), [.l 1, .l 0], none, 65024⟩,
  ⟨17, .N (.build [.int .i64 0, .int .i64 0] [(0, 1), (1, 1)]), [.l 8, .l 0], none, 131070⟩,
  ⟨18, .N (.bsl [.int .i64 0, .int .i64 0] 1 2 [(0, 2)]), [.l 0], none, 262142⟩,
  ⟨19, .X (.app 2 16), [.l 18, .l 0], none, 524287⟩,
  ⟨20, .N .mv, [.l 0], none, 1048575⟩] := Eq.trans rfl rfl
theorem er22_6 (φ : Nat → Nat) : r22_6 φ = [
  ⟨0, .N .mv, [.n 5], none, 0⟩,
  ⟨1, .N (.bin .add), [.l 0, .c (.int .i64 1)], none, 0⟩,
  ⟨2, .N .mv, [.l 0], none, 0⟩] := Eq.trans rfl rfl
theorem er22_8 (φ : Nat → Nat) : r22_8 φ = [
  ⟨0, .N .mv, [.n 0], none, 0⟩,
  ⟨1, .N .mv, [.n 4], none, 0⟩,
  ⟨2, .calli false (φ 2), [.l 1, .l 0], none, 0⟩,
  ⟨3, .N .mv, [.l 0], none, 0⟩,
  ⟨4, .N (.ext 0), [.l 0], none, 0⟩,
  ⟨5, .N (.ext 1), [.l 1], none, 0⟩,
  ⟨6, .N (.alloc [.int .i64 0, .nils]), [], none, 0⟩,
  ⟨7, .X (.store 2), [.l 0, .l 2], none, 0⟩,
  ⟨8, .N .mv, [.l 2], none, 0⟩] := Eq.trans rfl rfl
theorem er22_9 (φ : Nat → Nat) : r22_9 φ = [
  ⟨0, .N (.loadN 2), [.n 6], none, 0⟩,
  ⟨1, .X (.store 2), [.n 3, .l 0], none, 0⟩] := Eq.trans rfl rfl
/-- A copy that is one's own. -/
theorem w_Clone (h : Has A (φ 32) (f32 φ)) {v : AV} {es : List Ed} (hv : IsE v es) (hn : es.length < 1000000000000) {H : Heap} {K : AV → Heap → Prop}
    (hk : ∀ nl v' H', OwnE nl H.length H' v' es → (∀ b, b < H.length → H'[b]? = H[b]?) → H.length ≤ H'.length → K v' H') : PCall A (φ 32) [v] H K := by
  refine pcall_has h rfl ?_
  simp only [b32, f32]
  obtain ⟨h1, h2, ⟨rfl, h3⟩ | rfl⟩ := hv
  · have : es = [] := List.length_eq_zero_iff.1 h3
    subst this
    simp [-List.getD_eq_getElem?_getD, -Int.ofNat_toNat, -getElem?_pos, er32_0, er32_1, er32_2, er32_3, n_eqN, AV.isNilK]
    exact hk true .nils H (own_nil _ _ _) (fun _ _ => rfl) (Nat.le_refl _)
  · have ho : OwnE false H.length (H ++ [Ob.cells 0 false []]) (.sl H.length 0 0 0 2 0 true) [] := ownE_empty _ _ _ _ _
    obtain ⟨v', H', x1, x2, x3, x4, x5⟩ := Own.app (bytes := 16) ho (src_vs _ es.length 2 (cellsE es)) (by rw [cellsE_length]) (ones_cE es) (by simp) (by simp; omega)
    simp [-List.getD_eq_getElem?_getD, -Int.ofNat_toNat, -getElem?_pos, er32_0, er32_1, er32_2, er32_3, n_eqN, AV.isNilK, x1]
    rw [cellsE_nil, List.nil_append] at x2
    refine hk false v' H' (by simpa using x2) (fun b hb => ?_) (by simp at x4; omega)
    rw [x3 b (by simp; omega) (by simp [blkOf]), List.getElem?_append_left hb]
theorem idxOf_first : ∀ (es : List Ed) (x : Ed) (i : Nat) (h : i < es.length), es[i] = x → (∀ j (h : j < es.length), j < i → ¬ es[j] = x) → es.idxOf x = i
  | y :: l, x, 0, h, e, _ => by simp at e; subst e; simp [List.idxOf_cons]
  | y :: l, x, i + 1, h, e, hn => by
    have h0 : ¬ y = x := hn 0 (by simp) (by omega)
    rw [List.idxOf_cons]
    have hb : (y == x) = false := by simpa using h0
    rw [hb]
    simp only [cond_false]
    rw [idxOf_first l x i (by simpa using h) (by simpa using e) fun j hj hji => hn (j + 1) (by simp; omega) (by omega)]
def idxE (es : List Ed) (x : Ed) : Int := if x ∈ es then (es.idxOf x : Nat) else -1
theorem w_Index (h : Has A (φ 33) (f33 φ)) (v : AV) (es : List Ed) (x : Ed) (hv : IsE v es) (hn : es.length < 1000000000000) : PVal A (φ 33) [v, gE x] (.int .i64 (idxE es x)) := by
  have hlen := hv.len
  refine pval_has h rfl ?_
  simp only [l33_7, b33, f33]
  simp [-List.getD_eq_getElem?_getD, -Int.ofNat_toNat, -getElem?_pos, er33_0, er33_1, er33_2, er33_3, er33_4, er33_5, er33_6, er33_8, hlen]
  refine pc_loopI (fun m st => ∃ (i : Nat) (p q r s : AV), i + m = es.length ∧ (∀ j (h : j < es.length), j < i → ¬ es[j] = x) ∧
      st = ([v, gE x, .ptr 0 0 0, .int .i64 0, p, .int .i64 es.length, .int .i64 i, q, r], [.cells 0 false (aE x)])) es.length ⟨0, _, _, _, .un, by simp, by simp, rfl⟩ ?_
  rintro m st ⟨i, p, q, r, s, hi, hs, rfl⟩
  by_cases hlt : i < es.length
  · obtain ⟨i1, g1', g2', le1, t1⟩ := hv.at hlt
    have hw1 := wrap1 hlt (by omega)
    have hes := eqS2 x es[i]
    by_cases hx : x = es[i]
    · have hix : idxE es x = i := by
        have hm : x ∈ es := by rw [hx]; exact List.getElem_mem hlt
        unfold idxE
        rw [if_pos hm]
        rw [idxOf_first es x i hlt hx.symm hs]
      have ed : decide (x = es[i]) = true := decide_eq_true hx
      simp [-List.getD_eq_getElem?_getD, -Int.ofNat_toNat, -getElem?_pos, er33_0, er33_1, er33_2, er33_3, er33_4, er33_5, er33_6, er33_8, hlt, i1, le1, t1, hes, ed, hix]
    · have ed : decide (x = es[i]) = false := decide_eq_false hx
      simp [-List.getD_eq_getElem?_getD, -Int.ofNat_toNat, -getElem?_pos, er33_0, er33_1, er33_2, er33_3, er33_4, er33_5, er33_6, er33_8, hlt, i1, le1, t1, hes, ed, hw1]
      refine next_mk (m - 1) (by omega) ⟨i + 1, _, _, _, .un, by omega, fun j h hj => ?_, rfl⟩
      by_cases e : j = i
      · subst e; exact fun h => hx h.symm
      · exact hs j h (by omega)
  · have hno : ¬ x ∈ es := by
      intro hm
      obtain ⟨j, hj, rfl⟩ := List.getElem_of_mem hm
      exact hs j hj (by omega) rfl
    have hix : idxE es x = -1 := by unfold idxE; rw [if_neg hno]
    simp [-List.getD_eq_getElem?_getD, -Int.ofNat_toNat, -getElem?_pos, er33_0, er33_1, er33_2, er33_3, er33_4, er33_5, er33_6, er33_8, hlt, hix]
theorem erase_cells (es : List Ed) (i : Nat) (hi : i < es.length) : setAt (cellsE es) (i * 2) ((cellsE es).drop ((i + 1) * 2)) = cellsE (es.eraseIdx i) ++ (cellsE es).drop ((es.length - 1) * 2) := by
  have e : es.eraseIdx i = es.take i ++ es.drop (i + 1) := List.eraseIdx_eq_take_drop_succ ..
  unfold setAt
  rw [cE_drop, cE_take, e, cellsE_append, cE_drop]
  congr 2
  rw [cellsE_length, List.length_drop]
  rw [← cE_drop]
  congr 1
  omega
/-- An edge is taken out of a row that is one's own. -/
theorem w_Delete (h : Has A (φ 34) (f34 φ)) {nl : Bool} {P : Nat} {v : AV} {es : List Ed} {i : Nat} {H : Heap} (hv : OwnE nl P H v es) (hi : i < es.length) (hn : es.length < 1000000000000) {K : AV → Heap → Prop}
    (hk : ∀ v' H', RdV false H' v' (es.eraseIdx i) → (∀ b, b < P → H'[b]? = H[b]?) → H'.length = H.length → (∀ b, blkOf v ≠ some b → H'[b]? = H[b]?) → (∀ b, blkOf v' = some b → P ≤ b) → K v' H') : PCall A (φ 34) [v, .int .i64 i, .int .i64 ((i : Int) + 1)] H K := by
  refine pcall_has h rfl ?_
  simp only [b34, f34]
  rcases hv with ⟨h0, _⟩ | ⟨h0, b, g, ex, rfl, h1, h2, hb⟩
  · omega
  have b1 : (i : Int) ≤ (i : Int) + 1 := by omega
  have b2 : (i : Int) + 1 ≤ es.length := by omega
  have b3 : (i : Int) ≤ es.length := by omega
  have b4 : (0 : Int) ≤ (i : Int) + 1 := by omega
  have b5 : ((i : Int) + 1).toNat = i + 1 := by omega
  have hbl := lt_of_get hb
  have hset : ∀ z, (H.set b z)[b]? = some z := fun z => List.getElem?_set_self hbl
  have hec := erase_cells es i hi
  have htk : ((cellsE es).drop ((i + 1) * 2)).take ((es.length - (i + 1)) * 2) = (cellsE es).drop ((i + 1) * 2) := List.take_of_length_le (by rw [List.length_drop, cellsE_length]; omega)
  have hone : ((cellsE es).drop ((i + 1) * 2)).all (·.one) = true := by
    rw [List.all_eq_true]; exact fun x hx => List.all_eq_true.1 (ones_cE es) x (List.mem_of_mem_drop hx)
  have happ : ∃ ex', xstep (.app 2 16) [.sl b g 0 i 2 es.length ex, .sl b g ((i + 1) * 2) (es.length - (i + 1)) 2 (es.length - (i + 1)) ex] H = some (.sl b g 0 (es.length - 1) 2 es.length ex', H.set b (.cells g false (cellsE (es.eraseIdx i) ++ (cellsE es).drop ((es.length - 1) * 2)))) := by
    refine ⟨ex, ?_⟩
    have e1 : i + (es.length - (i + 1)) ≤ es.length := by omega
    have e2 : i + (es.length - (i + 1)) = es.length - 1 := by omega
    have e3 : (i + 1) * 2 + (es.length - (i + 1)) * 2 ≤ (cellsE es).length := by rw [cellsE_length]; omega
    by_cases hz : es.length - (i + 1) = 0
    · have hset0 : H.set b (.cells g false (cellsE es)) = H := by
        obtain ⟨h1, h2⟩ := List.getElem?_eq_some_iff.1 hb
        rw [← h2]; exact List.set_getElem_self h1
      have e4 : cellsE (es.eraseIdx i) ++ (cellsE es).drop ((es.length - 1) * 2) = cellsE es := by
        rw [← hec]
        have : (cellsE es).drop ((i + 1) * 2) = [] := List.drop_eq_nil_of_le (by rw [cellsE_length]; omega)
        rw [this]; simp [setAt]
      rw [e4, hset0]
      have e5 : i = es.length - 1 := by omega
      simp [xstep, srcCells, hz, appStep]
      exact e5
    · have e6 : i * 2 + ((cellsE es).drop ((i + 1) * 2)).length ≤ (cellsE es).length := by rw [List.length_drop, cellsE_length]; omega
      simp only [xstep, srcCells, if_true, if_neg hz, rdSl, hb]
      simp only [true_and, if_pos e3, htk, Option.map_some, appStep, hone, Bool.not_true, Bool.false_eq_true, if_false, ne_eq, not_true_eq_false, if_neg hz, if_pos e1, hb, Nat.zero_add, if_pos e6, hec, e2, if_pos (show es.length - 1 ≤ es.length by omega)]
  obtain ⟨ex', happ⟩ := happ
  have hcl : (cellsE (es.eraseIdx i) ++ (cellsE es).drop ((es.length - 1) * 2)).length = es.length * 2 := by
    rw [List.length_append, cellsE_length, List.length_drop, cellsE_length, List.length_eraseIdx]
    split <;> omega
  have b6 : (0 : Int) ≤ ((es.length - 1 : Nat) : Int) := by omega
  have b7 : ((es.length - 1 : Nat) : Int) ≤ es.length := by omega
  have hel : (es.eraseIdx i).length = es.length - 1 := by rw [List.length_eraseIdx, if_pos hi]
  have e7 : ¬ es.length - (es.length - 1) = 0 := by omega
  have b8 : i + 1 ≤ es.length := by omega
  have b9 : i ≤ es.length := by omega
  have b10 : ¬ i = i + 1 := by omega
  have e8 : (es.length - 1) * 2 + (es.length - (es.length - 1)) * 2 ≤ es.length * 2 := by omega
  have b11 : ¬ (i : Int) = (i : Int) + 1 := by omega
  simp [-List.getD_eq_getElem?_getD, -Int.ofNat_toNat, -getElem?_pos, er34_0, er34_1, er34_2, er34_3, er34_4, er34_5, er34_6, er34_7, b11, bounds3, intArg, b1, b2, b3, b4, b5, b8, b9, happ, hset, hcl, e7, e8]
  have hrl : (repA [AV.int IntKind.i64 0, AV.int IntKind.i64 0] (es.length - (es.length - 1))).length = (es.length - (es.length - 1)) * 2 := by rw [repA_len]; rfl
  refine hk _ _ (.inr ⟨(fun h => by cases h), b, g, 0, es.length, ex', false, _, by rw [hel], hset _, fun j hj => ?_⟩) (fun b' hb' => List.getElem?_set_ne (by omega)) (by simp) (fun b' hb' => List.getElem?_set_ne (fun e => hb' (by simp only [blkOf]; rw [if_neg (by omega), e]))) (fun b' hb' => by
    simp only [blkOf] at hb'
    split at hb' <;> cases hb'
    exact h1)
  rw [hel] at hj
  have hj' : j < (es.eraseIdx i).length := by rw [hel]; exact hj
  obtain ⟨k1, k2⟩ := cE_get (es.eraseIdx i) j hj'
  have hl' : (cellsE (es.eraseIdx i)).length = (es.length - 1) * 2 := by rw [cellsE_length, hel]
  rw [setAt_get (by rw [hrl, hcl]; omega), setAt_get (by rw [hrl, hcl]; omega), if_neg (by omega), if_neg (by omega), List.getElem?_append_left (by omega), List.getElem?_append_left (by omega)]
  simp only [Nat.zero_add]
  exact ⟨k1, k2⟩
/-! ### Any graph -/
def turnE (N : Int) (x : Ed) : Ed := ((x.1 % 65536).tmod N, (x.2 % 65536).tmod N)
def anyN (n most : Int) : Int := (n % 65536).tmod (most + 1)
def anyL (n : Int) (l : List Ed) : List Ed := if n > 0 then (l.take 300).map (turnE n) else []
theorem anyN_range {n most : Int} (h : 0 ≤ most) : 0 ≤ anyN n most ∧ anyN n most ≤ most := by
  unfold anyN
  have h1 : (0 : Int) ≤ n % 65536 := Int.emod_nonneg _ (by decide)
  rw [Int.tmod_eq_emod_of_nonneg h1]
  have := Int.emod_nonneg (n % 65536) (show most + 1 ≠ 0 by omega)
  have := Int.emod_lt_of_pos (n % 65536) (show 0 < most + 1 by omega)
  omega
theorem turnE_range {N : Int} (h : 0 < N) (x : Ed) : 0 ≤ (turnE N x).1 ∧ (turnE N x).1 < N ∧ 0 ≤ (turnE N x).2 ∧ (turnE N x).2 < N := by
  have e1 : (0 : Int) ≤ x.1 % 65536 := Int.emod_nonneg _ (by decide)
  have e2 : (0 : Int) ≤ x.2 % 65536 := Int.emod_nonneg _ (by decide)
  simp only [turnE, Int.tmod_eq_emod_of_nonneg e1, Int.tmod_eq_emod_of_nonneg e2]
  exact ⟨Int.emod_nonneg _ (by omega), Int.emod_lt_of_pos _ (by omega), Int.emod_nonneg _ (by omega), Int.emod_lt_of_pos _ (by omega)⟩
theorem anyL_ok (n : Int) (l : List Ed) : (anyL n l).all (okEnds n) = true := by
  unfold anyL
  split
  · rw [List.all_eq_true]
    intro x hx
    rw [List.mem_map] at hx
    obtain ⟨y, _, rfl⟩ := hx
    have := turnE_range (N := n) (by omega) y
    rw [okEnds, decide_eq_true (by omega), decide_eq_true (by omega)]; rfl
  · rfl
theorem anyL_len (n : Int) (l : List Ed) : (anyL n l).length ≤ 300 := by
  unfold anyL
  split
  · simp; omega
  · simp
/-- The graph that is made of anything. -/
def anyE (n most : Int) (l : List Ed) : List Ed := setE (anyL (anyN n most) l)
theorem any_normal {n most : Int} (l : List Ed) (h0 : 0 ≤ most) (h1 : most ≤ 1000) : normalE (anyN n most) (anyL (anyN n most) l) = (anyN n most, anyE n most l, 0) := by
  have hr := anyN_range (n := n) h0
  refine normalE_ok (by omega) (by omega) (anyL_ok _ _) ?_
  have := setE_le (anyL (anyN n most) l)
  have := anyL_len (anyN n most) l
  omega
theorem w_Any (h : Has A (φ 22) (f22 φ)) (hN : ∀ n v l, IsE v l → l.length < 1000000000 → PVal A (φ 2) [.int .i64 n, v] (nR n l)) (n most : Int) (v : AV) (l : List Ed) (hv : IsE v l) (h0 : 0 ≤ most) (h1 : most ≤ 1000) :
    PVal A (φ 22) [.int .i64 n, v, .int .i64 most] (gV (anyN n most) (rE (anyE n most l))) := by
  have hlen := hv.len
  have hr := anyN_range (n := n) h0
  have hw0 : IntKind.i64.wrap (most + 1) = most + 1 := wrap_in (by omega) (by omega)
  have hb : binV .rem (.int .i64 (n % 65536)) (.int .i64 (most + 1)) = some (.int .i64 (anyN n most)) := b_rem _ _ _ (by omega)
  have hfin := any_normal (n := n) l h0 h1
  refine pval_has h rfl ?_
  simp only [l22_7, b22, f22]
  simp [-List.getD_eq_getElem?_getD, -Int.ofNat_toNat, -getElem?_pos, er22_0, er22_1, er22_2, er22_3, er22_4, er22_5, er22_6, er22_8, er22_9, hw0, hb]
  generalize hNe : anyN n most = N at *
  refine pc_loopI (fun m st => ∃ (i : Nat) (o p : AV) (H : Heap), i + m = (anyL N l).length ∧ OwnE true 1 H o ((anyL N l).take i) ∧ H[0]? = some (.cells 0 false [.int .i64 0, .nils]) ∧
      st = ([.int .i64 N, v, .int .i64 most, .ptr 0 0 0, o, .int .i64 i, .un, p], H)) (anyL N l).length ⟨0, _, _, _, by simp, own_nil _ _ _, rfl, rfl⟩ ?_
  rintro m st ⟨i, o, p, H, hi, ho, e0, rfl⟩
  by_cases hlt : i < (anyL N l).length
  · have hN0 : 0 < N := by
      rcases Int.lt_or_le 0 N with h | h
      · exact h
      · unfold anyL at hlt; rw [if_neg (by omega)] at hlt; simp at hlt
    have hlt2 : i < l.length ∧ i < 300 := by unfold anyL at hlt; rw [if_pos hN0] at hlt; simp at hlt; omega
    obtain ⟨hl1, hl2⟩ := hlt2
    have hl1' : (i : Int) < l.length := by omega
    have hl2' : (i : Int) < 300 := by omega
    have hg : (anyL N l)[i] = turnE N l[i] := by
      have : anyL N l = (l.take 300).map (turnE N) := by unfold anyL; rw [if_pos hN0]
      simp only [this, List.getElem_map, List.getElem_take]
    obtain ⟨i1, g1', g2', le1, t1⟩ := hv.at hl1
    have hw1 := wrap1 hl2 (by omega)
    have r1 : binV .rem (.int .i64 (l[i].1 % 65536)) (.int .i64 N) = some (.int .i64 (turnE N l[i]).1) := b_rem _ _ _ (by omega)
    have r2 : binV .rem (.int .i64 (l[i].2 % 65536)) (.int .i64 N) = some (.int .i64 (turnE N l[i]).2) := b_rem _ _ _ (by omega)
    obtain ⟨o1, H1, x1, x2, x3, _, _, _⟩ := OwnE.app1 ho (turnE N l[i]).1 (turnE N l[i]).2 (lt_of_get e0) (by simp; omega)
    simp [-List.getD_eq_getElem?_getD, -Int.ofNat_toNat, -getElem?_pos, er22_0, er22_1, er22_2, er22_3, er22_4, er22_5, er22_6, er22_8, er22_9, hlen, hl1', hl2', hl1, hl2, hN0, i1, g1', g2', r1, r2, x1, hw1]
    refine next_mk (m - 1) (by omega) ⟨i + 1, o1, _, H1, by omega, ?_, by rw [x3 0 (by omega)]; exact e0, rfl⟩
    rw [List.take_succ_eq_append_getElem hlt, hg]; exact x2
  · have hm : (anyL N l).take i = anyL N l := List.take_of_length_le (by omega)
    rw [hm] at ho
    have hgu : ¬ ((i < l.length ∧ i < 300) ∧ 0 < N) := by
      rintro ⟨⟨h1, h2⟩, h3⟩
      apply hlt
      unfold anyL; rw [if_pos h3]; simp; omega
    obtain ⟨H', hva, hvl, hvk⟩ := Own.viewA (pre := [.int .i64 N]) (post := []) ho (closeds_cE _) rfl rfl
    have hal := anyL_len N l
    have hNE := (hN N (rE (anyL N l)) (anyL N l) (isE_r _) (by omega)).eq
    have e0' : H'[0]? = some (.cells 0 false [.int .i64 0, .nils]) := by rw [hvk 0 (fun h => by have := (Own.blk ho h).1; omega)]; exact e0
    simp only [List.cons_append, List.nil_append] at hva
    have hcl : (rE (anyE n most l)).closed = true := (isE_r _).closed
    have hone : (rE (anyE n most l)).one = true := (isE_r _).one
    have hcell : (rE (anyE n most l)).cells = [rE (anyE n most l)] := (isE_r _).cells
    have hlr := lt_of_get e0'
    have hset : ∀ z w, ((H' ++ [w]).set 0 z)[0]? = some z := fun z w => List.getElem?_set_self (by simp)
    have e0m := fun w => get_more [w] e0'
    by_cases k1 : i < l.length
    · by_cases k2 : (i : Int) < 300
      · have k3 : ¬ 0 < N := fun h => hgu ⟨⟨k1, by omega⟩, h⟩
        simp [-List.getD_eq_getElem?_getD, -Int.ofNat_toNat, -getElem?_pos, er22_0, er22_1, er22_2, er22_3, er22_4, er22_5, er22_6, er22_8, er22_9, hlen, k1, k2, k3, hva, hNE, nR, hfin, e0', e0m, hone, hcell, hset, hcl, resK, resVs, resV, pack]
      · simp [-List.getD_eq_getElem?_getD, -Int.ofNat_toNat, -getElem?_pos, er22_0, er22_1, er22_2, er22_3, er22_4, er22_5, er22_6, er22_8, er22_9, hlen, k1, k2, hva, hNE, nR, hfin, e0', e0m, hone, hcell, hset, hcl, resK, resVs, resV, pack]
    · simp [-List.getD_eq_getElem?_getD, -Int.ofNat_toNat, -getElem?_pos, er22_0, er22_1, er22_2, er22_3, er22_4, er22_5, er22_6, er22_8, er22_9, hlen, k1, hva, hNE, nR, hfin, e0', e0m, hone, hcell, hset, hcl, resK, resVs, resV, pack]
end Go.Ai.G
namespace Go.Ai.G
open Go.Ai
set_option maxRecDepth 100000
set_option linter.unusedSimpArgs false
set_option linter.unusedVariables false
variable {A : AProg} {φ : Nat → Nat}
attribute [local simp ↓] getD_z getD_s hid_k hid_o hid_q hid_v PO_nil PO_none PO_grd PD_nil PD_none PD_grd PDO_N PDO_X PDO_call PDO_calli PDO_callv PStep_N PStep_X PStep_call PStep_calli PC_skip PC_lab
  PC_ret PC_exit PC_reg PC_draw PC_seq PC_block PC_loop PC_scope PC_cond thenC_norm thenC_ret thenC_exit blockC_norm blockC_ret blockC_exit loopC_norm loopC_ret loopC_exit endR_ret
  endR_norm
attribute [local simp] gz PDX_free PDX_eq PStep_callv resK_none resK_t resK_tt KNO_val KNO_new KNO_ite KNO_map KXO_some KXO_ite KVA_t KVA_f KG_skip KG_tt KG_ff KG_tf KG_ft KB_true KB_false KNOD_val
  KNOD_new KNOD_ite n_mv n_pick n_bin n_eqB n_eqN n_eqS n_un n_conv n_fadd n_faddV n_fld1 n_fldN n_idx n_idxA n_idxV n_idxAV n_ext n_lenS n_lenS0 n_lenV n_lenT n_lenA n_min n_max
  n_build n_mkfn n_slc n_slc0 n_slcV n_slcA n_load1 n_loadN n_load1V n_loadNV n_alloc n_box n_bsl n_mksl n_nilcP n_nilcV n_nilcI n_nilcF x_store x_clear0 x_clear b_add b_sub b_mul
  b_eql b_neq b_lss b_leq b_gtr b_geq b_and16 unV ntouch gather hide unhide evalOpd applyOuts int_bne int_beq ite_bool ite_int one_bool cells_bool one_int cells_int one_str cells_str
  one_nilp cells_nilp one_ptr cells_ptr one_nils cells_nils one_sl cells_sl one_nilf cells_nilf one_fn cells_fn one_nili cells_nili one_mp cells_mp one_nilm cells_nilm one_iface
  cells_iface one_vs cells_vs one_vp cells_vp cells_agg Nat.testBit setAt_1 setAt_2 closeds_nil closeds_cons closed_bool closed_int closed_str closed_nilp closed_nils closed_nilm
  closed_nilf closed_nili closed_agg closed_tup closed_vs closed_vp closed_iface closed_fn closeds_cI closeds_cE viewA_closed viewR_closed AV.scal AV.scal0 fillA repA part_bool
  part_int part_str part_nilp part_ptr part_nils part_sl part_nilm part_mp part_nilf part_fn part_nili part_iface part_agg part_vs part_vp viewA_sl1 vaSl_cells wrap_0 wrap_1 wrap_2
  wrap_m1 set_last get_last
theorem er15_0 (φ : Nat → Nat) : r15_0 φ = [
  ⟨0, .N .box, [.n 0], none, 0⟩,
  ⟨1, .N (.alloc [.int .i64 0, .nils]), [], none, 0⟩,
  ⟨2, .N .mv, [.c (.int .i64 0)], none, 0⟩] := Eq.trans rfl rfl
theorem er15_1 (φ : Nat → Nat) : r15_1 φ = [
  ⟨0, .N (.loadN 2), [.n 3], none, 0⟩,
  ⟨1, .calli true (φ 4), [.l 0], none, 0⟩,
  ⟨2, .N (.un .not), [.l 0], none, 0⟩,
  ⟨3, .N .mv, [.l 0], none, 0⟩] := Eq.trans rfl rfl
theorem er15_2 (φ : Nat → Nat) : r15_2 φ = [
  ⟨0, .N (.build [.int .i64 0, .nils] []), [], none, 0⟩,
  ⟨1, .X (.store 2), [.n 4, .l 0], none, 0⟩,
  ⟨2, .N .mv, [.c (.int .i64 1)], none, 0⟩] := Eq.trans rfl rfl
theorem er15_3 (φ : Nat → Nat) : r15_3 φ = [
  ⟨0, .N .mv, [.n 1], none, 0⟩,
  ⟨1, .N .mv, [.n 2], none, 0⟩,
  ⟨2, .N .min, [.l 1, .l 0], none, 0⟩,
  ⟨3, .N (.bin .lss), [.l 0, .c (.int .i64 0)], none, 0⟩,
  ⟨4, .N .mv, [.l 0], none, 0⟩,
  ⟨5, .N .mv, [.n 1], some (.l 0, false), 0⟩,
  ⟨6, .N .mv, [.n 2], some (.l 1, false), 0⟩,
  ⟨7, .N .max, [.l 1, .l 0], some (.l 2, false), 0⟩,
  ⟨8, .N (.fadd 0), [.n 3], some (.l 3, false), 0⟩,
  ⟨9, .N .load1, [.l 0], some (.l 4, false), 0⟩,
  ⟨10, .N (.bin .geq), [.l 2, .l 0], some (.l 5, false), 0⟩,
  ⟨11, .N .pick, [.l 6, .c (.bool true), .l 0], none, 0⟩,
  ⟨12, .N .mv, [.l 0], none, 0⟩] := Eq.trans rfl rfl
theorem er15_4 (φ : Nat → Nat) : r15_4 φ = [
  ⟨0, .N (.build [.int .i64 0, .nils] []), [], none, 0⟩,
  ⟨1, .X (.store 2), [.n 4, .l 0], none, 0⟩,
  ⟨2, .N .mv, [.c (.int .i64 4)], none, 0⟩] := Eq.trans rfl rfl
theorem er15_5 (φ : Nat → Nat) : r15_5 φ = [
  ⟨0, .N .mv, [.n 1], none, 0⟩,
  ⟨1, .N .mv, [.n 2], none, 0⟩,
  ⟨2, .N (.bin .eql), [.l 1, .l 0], none, 0⟩,
  ⟨3, .N .mv, [.l 0], none, 0⟩] := Eq.trans rfl rfl
theorem er15_6 (φ : Nat → Nat) : r15_6 φ = [
  ⟨0, .N (.build [.int .i64 0, .nils] []), [], none, 0⟩,
  ⟨1, .X (.store 2), [.n 4, .l 0], none, 0⟩,
  ⟨2, .N .mv, [.c (.int .i64 1)], none, 0⟩] := Eq.trans rfl rfl
theorem er15_7 (φ : Nat → Nat) : r15_7 φ = [
  ⟨0, .N (.fadd 0), [.n 3], none, 0⟩,
  ⟨1, .N .load1, [.l 0], none, 1⟩,
  ⟨2, .N (.fadd 1), [.n 3], none, 0⟩,
  ⟨3, .N .load1, [.l 0], none, 4⟩,
  ⟨5, .N .mv, [.n 1], none, 0⟩,
  ⟨6, .N .mv, [.n 2], none, 0⟩,
  ⟨7, .N (.build [.int .i64 0, .int .i64 0] [(0, 1), (1, 1)]), [.l 1, .l 0], none, 48⟩,
  ⟨8, .N (.bsl [.int .i64 0, .int .i64 0] 1 2 [(0, 2)]), [.l 0], none, 112⟩,
  ⟨4, .call (φ 32), [.l 4], none, 12⟩,
  ⟨9, .X (.app 2 16), [.l 0, .l 1], none, 508⟩,
  ⟨10, .calli false (φ 1), [.l 8, .l 0], none, 1023⟩,
  ⟨11, .N (.ext 0), [.l 0], none, 2047⟩,
  ⟨12, .N (.ext 1), [.l 1], none, 2047⟩,
  ⟨13, .X (.store 2), [.n 4, .l 1], none, 8191⟩,
  ⟨14, .N .mv, [.l 1], none, 16383⟩] := Eq.trans rfl rfl
theorem er17_0 (φ : Nat → Nat) : r17_0 φ = [
  ⟨0, .N .box, [.n 0], none, 0⟩,
  ⟨1, .N (.alloc [.int .i64 0, .nils]), [], none, 0⟩,
  ⟨2, .N .mv, [.c (.int .i64 0)], none, 0⟩] := Eq.trans rfl rfl
theorem er17_1 (φ : Nat → Nat) : r17_1 φ = [
  ⟨0, .N (.loadN 2), [.n 3], none, 0⟩,
  ⟨1, .calli true (φ 4), [.l 0], none, 0⟩,
  ⟨2, .N (.un .not), [.l 0], none, 0⟩] := Eq.trans rfl rfl
theorem er17_2 (φ : Nat → Nat) : r17_2 φ = [
  ⟨0, .N (.build [.int .i64 0, .nils] []), [], none, 0⟩,
  ⟨1, .X (.store 2), [.n 4, .l 0], none, 0⟩,
  ⟨2, .N .mv, [.c (.int .i64 1)], none, 0⟩] := Eq.trans rfl rfl
theorem er17_3 (φ : Nat → Nat) : r17_3 φ = [
  ⟨0, .N (.fadd 1), [.n 3], none, 0⟩,
  ⟨1, .N .load1, [.l 0], none, 0⟩,
  ⟨2, .N .mv, [.n 1], none, 0⟩,
  ⟨3, .N .mv, [.n 2], none, 0⟩,
  ⟨4, .N .min, [.l 1, .l 0], none, 0⟩,
  ⟨5, .N .mv, [.n 1], none, 0⟩,
  ⟨6, .N .mv, [.n 2], none, 0⟩,
  ⟨7, .N .max, [.l 1, .l 0], none, 0⟩,
  ⟨8, .N (.build [.int .i64 0, .int .i64 0] [(0, 1), (1, 1)]), [.l 3, .l 0], none, 0⟩,
  ⟨9, .calli true (φ 33), [.l 7, .l 0], none, 0⟩,
  ⟨10, .N .mv, [.l 0], none, 0⟩] := Eq.trans rfl rfl
theorem er17_4 (φ : Nat → Nat) : r17_4 φ = [
  ⟨0, .N .mv, [.n 6], none, 0⟩,
  ⟨1, .N (.bin .lss), [.l 0, .c (.int .i64 0)], none, 0⟩] := Eq.trans rfl rfl
theorem er17_5 (φ : Nat → Nat) : r17_5 φ = [
  ⟨0, .N (.build [.int .i64 0, .nils] []), [], none, 0⟩,
  ⟨1, .X (.store 2), [.n 4, .l 0], none, 0⟩,
  ⟨2, .N .mv, [.c (.int .i64 6)], none, 0⟩] := Eq.trans rfl rfl
theorem er17_6 (φ : Nat → Nat) : r17_6 φ = [
  ⟨0, .N (.fadd 0), [.n 3], none, 0⟩,
  ⟨1, .N .load1, [.l 0], none, 1⟩,
  ⟨2, .N (.fadd 1), [.n 3], none, 0⟩,
  ⟨3, .N .load1, [.l 0], none, 4⟩,
  ⟨5, .N .mv, [.n 6], none, 0⟩,
  ⟨6, .N .mv, [.n 6], none, 0⟩,
  ⟨7, .N (.bin .add), [.l 0, .c (.int .i64 1)], none, 32⟩,
  ⟨4, .call (φ 32), [.l 3], none, 12⟩,
  ⟨8, .call (φ 34), [.l 0, .l 3, .l 1], none, 252⟩,
  ⟨9, .N (.build [.int .i64 0, .nils] [(0, 1), (1, 1)]), [.l 7, .l 0], none, 511⟩,
  ⟨10, .X (.store 2), [.n 4, .l 0], none, 1023⟩,
  ⟨11, .N .mv, [.c (.int .i64 0)], none, 2047⟩] := Eq.trans rfl rfl
theorem er16_0 (φ : Nat → Nat) : r16_0 φ = [
  ⟨0, .N .box, [.n 0], none, 0⟩,
  ⟨1, .N (.alloc [.int .i64 0, .nils]), [], none, 0⟩,
  ⟨2, .N .mv, [.c (.int .i64 0)], none, 0⟩] := Eq.trans rfl rfl
theorem er16_1 (φ : Nat → Nat) : r16_1 φ = [
  ⟨0, .N (.loadN 2), [.n 3], none, 0⟩,
  ⟨1, .calli true (φ 6), [.l 0], none, 0⟩,
  ⟨2, .N (.un .not), [.l 0], none, 0⟩] := Eq.trans rfl rfl
theorem er16_2 (φ : Nat → Nat) : r16_2 φ = [
  ⟨0, .N (.build [.int .i64 0, .nils] []), [], none, 0⟩,
  ⟨1, .X (.store 2), [.n 4, .l 0], none, 0⟩,
  ⟨2, .N .mv, [.c (.int .i64 1)], none, 0⟩] := Eq.trans rfl rfl
theorem er16_3 (φ : Nat → Nat) : r16_3 φ = [
  ⟨0, .N .mv, [.n 1], none, 0⟩,
  ⟨1, .N (.bin .lss), [.l 0, .c (.int .i64 0)], none, 0⟩,
  ⟨2, .N .mv, [.l 0], none, 0⟩,
  ⟨3, .N .mv, [.n 2], some (.l 0, false), 0⟩,
  ⟨4, .N (.bin .lss), [.l 0, .c (.int .i64 0)], some (.l 1, false), 0⟩,
  ⟨5, .N .pick, [.l 2, .c (.bool true), .l 0], none, 0⟩,
  ⟨6, .N .mv, [.l 0], none, 0⟩,
  ⟨7, .N .mv, [.n 1], some (.l 0, false), 0⟩,
  ⟨8, .N (.fadd 0), [.n 3], some (.l 1, false), 0⟩,
  ⟨9, .N .load1, [.l 0], some (.l 2, false), 0⟩,
  ⟨10, .N (.bin .geq), [.l 2, .l 0], some (.l 3, false), 0⟩,
  ⟨11, .N .pick, [.l 4, .c (.bool true), .l 0], none, 0⟩,
  ⟨12, .N .mv, [.l 0], none, 0⟩,
  ⟨13, .N .mv, [.n 2], some (.l 0, false), 0⟩,
  ⟨14, .N (.fadd 0), [.n 3], some (.l 1, false), 0⟩,
  ⟨15, .N .load1, [.l 0], some (.l 2, false), 0⟩,
  ⟨16, .N (.bin .geq), [.l 2, .l 0], some (.l 3, false), 0⟩,
  ⟨17, .N .pick, [.l 4, .c (.bool true), .l 0], none, 0⟩] := Eq.trans rfl rfl
theorem er16_4 (φ : Nat → Nat) : r16_4 φ = [
  ⟨0, .N (.build [.int .i64 0, .nils] []), [], none, 0⟩,
  ⟨1, .X (.store 2), [.n 4, .l 0], none, 0⟩,
  ⟨2, .N .mv, [.c (.int .i64 4)], none, 0⟩] := Eq.trans rfl rfl
theorem er16_5 (φ : Nat → Nat) : r16_5 φ = [
  ⟨0, .N .mv, [.n 1], none, 0⟩,
  ⟨1, .N .mv, [.n 2], none, 0⟩,
  ⟨2, .N (.bin .eql), [.l 1, .l 0], none, 0⟩] := Eq.trans rfl rfl
theorem er16_6 (φ : Nat → Nat) : r16_6 φ = [
  ⟨0, .N (.build [.int .i64 0, .nils] []), [], none, 0⟩,
  ⟨1, .X (.store 2), [.n 4, .l 0], none, 0⟩,
  ⟨2, .N .mv, [.c (.int .i64 1)], none, 0⟩] := Eq.trans rfl rfl
theorem er16_7 (φ : Nat → Nat) : r16_7 φ = [
  ⟨0, .N (.fadd 0), [.n 3], none, 0⟩,
  ⟨1, .N .load1, [.l 0], none, 1⟩,
  ⟨2, .N (.bsl [.int .i64 0, .int .i64 0] 0 2 []), [], none, 0⟩,
  ⟨3, .N (.fadd 1), [.n 3], none, 0⟩,
  ⟨4, .N .load1, [.l 0], none, 8⟩,
  ⟨6, .N .mv, [.n 1], none, 0⟩,
  ⟨7, .N .mv, [.n 2], none, 0⟩,
  ⟨8, .N (.build [.int .i64 0, .int .i64 0] [(0, 1), (1, 1)]), [.l 1, .l 0], none, 96⟩,
  ⟨9, .N (.bsl [.int .i64 0, .int .i64 0] 1 2 [(0, 2)]), [.l 0], none, 224⟩,
  ⟨5, .X (.app 2 16), [.l 6, .l 4], none, 28⟩,
  ⟨10, .X (.app 2 16), [.l 0, .l 1], none, 1020⟩,
  ⟨11, .calli false (φ 2), [.l 9, .l 0], none, 2047⟩,
  ⟨12, .N (.ext 0), [.l 0], none, 4095⟩,
  ⟨13, .N (.ext 1), [.l 1], none, 4095⟩,
  ⟨14, .X (.store 2), [.n 4, .l 1], none, 16383⟩,
  ⟨15, .N .mv, [.l 1], none, 32767⟩] := Eq.trans rfl rfl
theorem er18_0 (φ : Nat → Nat) : r18_0 φ = [
  ⟨0, .N .box, [.n 0], none, 0⟩,
  ⟨1, .N (.alloc [.int .i64 0, .nils]), [], none, 0⟩,
  ⟨2, .N .mv, [.c (.int .i64 0)], none, 0⟩] := Eq.trans rfl rfl
theorem er18_1 (φ : Nat → Nat) : r18_1 φ = [
  ⟨0, .N (.loadN 2), [.n 3], none, 0⟩,
  ⟨1, .calli true (φ 6), [.l 0], none, 0⟩,
  ⟨2, .N (.un .not), [.l 0], none, 0⟩] := Eq.trans rfl rfl
theorem er18_2 (φ : Nat → Nat) : r18_2 φ = [
  ⟨0, .N (.build [.int .i64 0, .nils] []), [], none, 0⟩,
  ⟨1, .X (.store 2), [.n 4, .l 0], none, 0⟩,
  ⟨2, .N .mv, [.c (.int .i64 1)], none, 0⟩] := Eq.trans rfl rfl
theorem er18_3 (φ : Nat → Nat) : r18_3 φ = [
  ⟨0, .N (.loadN 2), [.n 3], none, 0⟩,
  ⟨1, .N .mv, [.n 1], none, 0⟩,
  ⟨2, .N .mv, [.n 2], none, 0⟩,
  ⟨3, .calli true (φ 8), [.l 2, .l 1, .l 0], none, 0⟩,
  ⟨4, .N (.un .not), [.l 0], none, 0⟩] := Eq.trans rfl rfl
theorem er18_4 (φ : Nat → Nat) : r18_4 φ = [
  ⟨0, .N (.build [.int .i64 0, .nils] []), [], none, 0⟩,
  ⟨1, .X (.store 2), [.n 4, .l 0], none, 0⟩,
  ⟨2, .N .mv, [.c (.int .i64 6)], none, 0⟩] := Eq.trans rfl rfl
theorem er18_5 (φ : Nat → Nat) : r18_5 φ = [
  ⟨0, .N (.fadd 0), [.n 3], none, 0⟩,
  ⟨1, .N .load1, [.l 0], none, 0⟩,
  ⟨2, .N (.build [.int .i64 0, .nils] [(0, 1)]), [.l 0], none, 0⟩,
  ⟨3, .N (.alloc [.int .i64 0, .nils]), [], none, 0⟩,
  ⟨4, .X (.store 2), [.l 0, .l 1], none, 0⟩] := Eq.trans rfl rfl
theorem er18_6 (φ : Nat → Nat) : r18_6 φ = [
  ⟨0, .N .mv, [.c (.int .i64 0)], none, 0⟩] := Eq.trans rfl rfl
theorem er18_7 (φ : Nat → Nat) : r18_7 φ = [
  ⟨0, .N .mv, [.n 7], none, 0⟩,
  ⟨1, .N (.fadd 1), [.n 3], none, 0⟩,
  ⟨2, .N .load1, [.l 0], none, 0⟩,
  ⟨3, .N .lenS, [.l 0], none, 0⟩,
  ⟨4, .N (.bin .lss), [.l 3, .l 0], none, 0⟩] := Eq.trans rfl rfl
theorem er18_8 (φ : Nat → Nat) : r18_8 φ = [
  ⟨0, .N (.fadd 1), [.n 3], none, 0⟩,
  ⟨1, .N .load1, [.l 0], none, 0⟩,
  ⟨2, .N .mv, [.n 7], none, 0⟩,
  ⟨3, .N (.idx 2), [.l 1, .l 0], none, 0⟩,
  ⟨4, .N (.fadd 0), [.l 0], none, 0⟩,
  ⟨5, .N .load1, [.l 0], none, 0⟩,
  ⟨6, .N .mv, [.n 1], none, 0⟩,
  ⟨7, .N .mv, [.n 2], none, 0⟩,
  ⟨8, .N .min, [.l 1, .l 0], none, 0⟩,
  ⟨9, .N (.bin .neq), [.l 3, .l 0], none, 0⟩,
  ⟨10, .N .mv, [.l 0], none, 0⟩,
  ⟨11, .N (.fadd 1), [.n 3], some (.l 0, false), 0⟩,
  ⟨12, .N .load1, [.l 0], some (.l 1, false), 0⟩,
  ⟨13, .N .mv, [.n 7], some (.l 2, false), 0⟩,
  ⟨14, .N (.idx 2), [.l 1, .l 0], some (.l 3, false), 0⟩,
  ⟨15, .N (.fadd 1), [.l 0], some (.l 4, false), 0⟩,
  ⟨16, .N .load1, [.l 0], some (.l 5, false), 0⟩,
  ⟨17, .N .mv, [.n 1], some (.l 6, false), 0⟩,
  ⟨18, .N .mv, [.n 2], some (.l 7, false), 0⟩,
  ⟨19, .N .max, [.l 1, .l 0], some (.l 8, false), 0⟩,
  ⟨20, .N (.bin .neq), [.l 3, .l 0], some (.l 9, false), 0⟩,
  ⟨21, .N .pick, [.l 10, .c (.bool true), .l 0], none, 0⟩] := Eq.trans rfl rfl
theorem er18_9 (φ : Nat → Nat) : r18_9 φ = [
  ⟨0, .N (.fadd 1), [.n 6], none, 0⟩,
  ⟨1, .N .load1, [.l 0], none, 1⟩,
  ⟨2, .N (.fadd 1), [.n 3], none, 0⟩,
  ⟨3, .N .load1, [.l 0], none, 4⟩,
  ⟨4, .N .mv, [.n 7], none, 0⟩,
  ⟨5, .N (.idx 2), [.l 1, .l 0], none, 28⟩,
  ⟨6, .N (.loadN 2), [.l 0], none, 60⟩,
  ⟨7, .N (.bsl [.int .i64 0, .int .i64 0] 1 2 [(0, 2)]), [.l 0], none, 124⟩,
  ⟨8, .X (.app 2 16), [.l 6, .l 0], none, 255⟩,
  ⟨9, .N (.fadd 1), [.n 6], none, 511⟩,
  ⟨10, .X (.store 1), [.l 0, .l 1], none, 1023⟩] := Eq.trans rfl rfl
theorem er18_10 (φ : Nat → Nat) : r18_10 φ = [
  ⟨0, .N .mv, [.n 7], none, 0⟩,
  ⟨1, .N (.bin .add), [.l 0, .c (.int .i64 1)], none, 0⟩,
  ⟨2, .N .mv, [.l 0], none, 0⟩] := Eq.trans rfl rfl
theorem er18_12 (φ : Nat → Nat) : r18_12 φ = [
  ⟨0, .N (.loadN 2), [.n 6], none, 0⟩,
  ⟨1, .X (.store 2), [.n 4, .l 0], none, 0⟩,
  ⟨2, .N .mv, [.c (.int .i64 0)], none, 0⟩] := Eq.trans rfl rfl
/-- A graph and an error, as answered. -/
abbrev gR (x : Int × List Ed × Int) : AV := .tup [gV x.1 (rE x.2.1), .int .i64 x.2.2]
def addE (n : Int) (es : List Ed) (a b : Int) : Int × List Ed × Int :=
  if rightE n es = false then (0, [], 1) else if min a b < 0 ∨ n ≤ max a b then (0, [], 4) else if a = b then (0, [], 1) else normalE n (es ++ [(a, b)])
theorem addE_def (n : Int) (es : List Ed) (a b : Int) : addE n es a b = if rightE n es = false then (0, [], 1) else if min a b < 0 ∨ n ≤ max a b then (0, [], 4) else if a = b then (0, [], 1) else normalE n (es ++ [(a, b)]) := rfl
def withoutE (n : Int) (es : List Ed) (a b : Int) : Int × List Ed × Int :=
  if rightE n es = false then (0, [], 1) else if (min a b, max a b) ∈ es then (n, es.erase (min a b, max a b), 0) else (0, [], 6)
abbrev RightC (A : AProg) (f : Nat) : Prop := ∀ n v es, IsE v es → PVal A f [gV n v] (.bool (rightE n es))
abbrev NormalC (A : AProg) (f : Nat) : Prop := ∀ n v l, IsE v l → l.length < 1000000000 → PVal A f [.int .i64 n, v] (nR n l)
theorem rE_closed (es : List Ed) : (rE es).closed = true := (isE_r es).closed
theorem rE_one (es : List Ed) : (rE es).one = true := (isE_r es).one
theorem rE_cells (es : List Ed) : (rE es).cells = [rE es] := (isE_r es).cells
theorem w_Add (h : Has A (φ 15) (f15 φ)) (h2 : RightC A (φ 4)) (h3 : NormalC A (φ 1)) (h4 : Has A (φ 32) (f32 φ)) (n a b : Int) (v : AV) (es : List Ed) (hv : IsE v es) :
    PVal A (φ 15) [gV n v, .int .i64 a, .int .i64 b] (gR (addE n es a b)) := by
  have hone := hv.one
  have hcl := hv.closed
  have hr := (h2 n v es hv).eq
  have m1 := minV_i a b
  have m2 := maxV_i a b
  have hdef := addE_def n es a b
  generalize min a b = mn at *
  generalize max a b = mx at *
  refine pval_has h rfl ?_
  simp only [b15, f15]
  by_cases hR : rightE n es = true
  · have hl := right_len hR
    by_cases c1 : mn < 0
    · have hf : addE n es a b = (0, [], 4) := by rw [hdef, hR]; rw [if_neg (by simp), if_pos (.inl c1)]
      simp [-List.getD_eq_getElem?_getD, -Int.ofNat_toNat, -getElem?_pos, er15_0, er15_1, er15_2, er15_3, er15_4, er15_5, er15_6, er15_7, hone, hcl, hr, hR, foldV, m1, m2, c1, hf, rv, resK, resVs, resV, pack, viewG0]
    by_cases c2 : n ≤ mx
    · have hf : addE n es a b = (0, [], 4) := by rw [hdef, hR]; rw [if_neg (by simp), if_pos (.inr c2)]
      simp [-List.getD_eq_getElem?_getD, -Int.ofNat_toNat, -getElem?_pos, er15_0, er15_1, er15_2, er15_3, er15_4, er15_5, er15_6, er15_7, hone, hcl, hr, hR, foldV, m1, m2, c1, c2, hf, rv, resK, resVs, resV, pack, viewG0]
    by_cases c3 : a = b
    · have hf : addE n es a b = (0, [], 1) := by rw [hdef, hR]; rw [if_neg (by simp), if_neg (by omega), if_pos c3]
      subst c3
      simp [-List.getD_eq_getElem?_getD, -Int.ofNat_toNat, -getElem?_pos, er15_0, er15_1, er15_2, er15_3, er15_4, er15_5, er15_6, er15_7, hone, hcl, hr, hR, foldV, m1, m2, c1, c2, hf, rv, resK, resVs, resV, pack, viewG0]
    have hf : addE n es a b = normalE n (es ++ [(a, b)]) := by rw [hdef, hR]; rw [if_neg (by simp), if_neg (by omega), if_neg c3]
    simp [-List.getD_eq_getElem?_getD, -Int.ofNat_toNat, -getElem?_pos, er15_0, er15_1, er15_2, er15_3, er15_4, er15_5, er15_6, er15_7, hone, hcl, hr, hR, foldV, m1, m2, c1, c2, c3]
    refine w_Clone h4 hv (by omega) fun nl v' H' x1 x2 x3 => ?_
    simp only [hid_k]
    have e0 : H'[0]? = some (.cells 0 false [.int .i64 n, v]) := by rw [x2 0 (by simp)]; rfl
    have e1 : H'[1]? = some (.cells 0 false [.int .i64 0, .nils]) := by rw [x2 1 (by simp)]; rfl
    simp only [List.length_cons, List.length_nil, Nat.zero_add, Nat.reduceAdd] at x3 x1
    refine ⟨fun b hb => by simp at hb; subst hb; exact e0, ?_⟩
    have x1' : OwnE nl 3 (H'.set 2 (.cells 0 false [.int .i64 a, .int .i64 b])) v' es := Own.keep x1 fun b hb hbv => List.getElem?_set_ne (by have := (Own.blk x1 hbv).1; omega)
    have e0' : (H'.set 2 (.cells 0 false [.int .i64 a, .int .i64 b]))[0]? = some (.cells 0 false [.int .i64 n, v]) := by rw [List.getElem?_set_ne (by omega)]; exact e0
    have e1' : (H'.set 2 (.cells 0 false [.int .i64 a, .int .i64 b]))[1]? = some (.cells 0 false [.int .i64 0, .nils]) := by rw [List.getElem?_set_ne (by omega)]; exact e1
    have e2' : (H'.set 2 (.cells 0 false [.int .i64 a, .int .i64 b]))[2]? = some (.cells 0 false [.int .i64 a, .int .i64 b]) := List.getElem?_set_self (by omega)
    simp only [hid_k, List.getD_cons_succ, List.getD_cons_zero]
    generalize H'.set 2 (.cells 0 false [.int .i64 a, .int .i64 b]) = H2 at *
    clear e0 e1 x1 x2 x3
    have hsrc : srcCells H2 2 (.sl 2 0 0 1 2 1 true) = some (1, [.int .i64 a, .int .i64 b]) := by simp [srcCells, rdSl, e2']
    obtain ⟨w, H3, y1, y2, y3, y4, y5⟩ := Own.app (bytes := 16) x1' hsrc rfl rfl (lt_of_get e2') (by omega)
    have y2' : OwnE nl 3 H3 w (es ++ [(a, b)]) := by rw [OwnE, cellsE_append]; simpa [cellsE] using y2
    have hlow : ∀ b, b < 3 → H3[b]? = H2[b]? := fun b hb => y3 b (by have := lt_of_get e2'; omega) (fun h => by have := (Own.blk x1' h).1; omega)
    obtain ⟨H4, hva, hvl, hvk⟩ := Own.viewA (pre := [.int .i64 n]) (post := []) y2' (closeds_cE _) rfl rfl
    simp only [List.cons_append, List.nil_append] at hva
    have z1 : H4[1]? = some (.cells 0 false [.int .i64 0, .nils]) := by rw [hvk 1 (fun h => by have := (Own.blk y2' h).1; omega), hlow 1 (by omega)]; exact e1'
    have hNE := (h3 n _ (es ++ [(a, b)]) (is_rv (nl := nl) (cellsE_length _) (closeds_cE _)) (by simp; omega)).eq
    rw [show (es ++ [(a, b)]).length = es.length + 1 by simp] at hNE hva
    have hl0 := hlow 0 (by omega)
    have hset : ∀ z, (H4.set 1 z)[1]? = some z := fun z => List.getElem?_set_self (lt_of_get z1)
    simp [-List.getD_eq_getElem?_getD, -Int.ofNat_toNat, -getElem?_pos, er15_0, er15_1, er15_2, er15_3, er15_4, er15_5, er15_6, er15_7, y1, hva, hNE, hl0, nR, z1, rE_one, rE_cells, rE_closed, hset, resK, resVs, resV, pack, hf]
  · simp only [Bool.not_eq_true] at hR
    have hf : addE n es a b = (0, [], 1) := by rw [hdef, if_pos hR]
    simp [-List.getD_eq_getElem?_getD, -Int.ofNat_toNat, -getElem?_pos, er15_0, er15_1, er15_2, er15_3, er15_4, er15_5, er15_6, er15_7, hone, hcl, hr, hR, hf, rv, resK, resVs, resV, pack, viewG0]
theorem w_RAdd (h : Has A (φ 16) (f16 φ)) (h2 : RightC A (φ 6)) (h3 : NormalC A (φ 2)) (n a b : Int) (v : AV) (es : List Ed) (hv : IsE v es) :
    PVal A (φ 16) [gV n v, .int .i64 a, .int .i64 b] (gR (addE n es a b)) := by
  have hone := hv.one
  have hcl := hv.closed
  have hr := (h2 n v es hv).eq
  refine pval_has h rfl ?_
  simp only [b16, f16]
  by_cases hR : rightE n es = true
  · have hl := right_len hR
    by_cases d1 : a < 0
    · have hf : addE n es a b = (0, [], 4) := by rw [addE_def, hR]; rw [if_neg (by simp), if_pos (by omega)]
      simp [-List.getD_eq_getElem?_getD, -Int.ofNat_toNat, -getElem?_pos, er16_0, er16_1, er16_2, er16_3, er16_4, er16_5, er16_6, er16_7, hone, hcl, hr, hR, d1, hf, rv, resK, resVs, resV, pack, viewG0]
    by_cases d2 : b < 0
    · have hf : addE n es a b = (0, [], 4) := by rw [addE_def, hR]; rw [if_neg (by simp), if_pos (by omega)]
      simp [-List.getD_eq_getElem?_getD, -Int.ofNat_toNat, -getElem?_pos, er16_0, er16_1, er16_2, er16_3, er16_4, er16_5, er16_6, er16_7, hone, hcl, hr, hR, d1, d2, hf, rv, resK, resVs, resV, pack, viewG0]
    by_cases d3 : n ≤ a
    · have hf : addE n es a b = (0, [], 4) := by rw [addE_def, hR]; rw [if_neg (by simp), if_pos (by omega)]
      simp [-List.getD_eq_getElem?_getD, -Int.ofNat_toNat, -getElem?_pos, er16_0, er16_1, er16_2, er16_3, er16_4, er16_5, er16_6, er16_7, hone, hcl, hr, hR, d1, d2, d3, hf, rv, resK, resVs, resV, pack, viewG0]
    by_cases d4 : n ≤ b
    · have hf : addE n es a b = (0, [], 4) := by rw [addE_def, hR]; rw [if_neg (by simp), if_pos (by omega)]
      simp [-List.getD_eq_getElem?_getD, -Int.ofNat_toNat, -getElem?_pos, er16_0, er16_1, er16_2, er16_3, er16_4, er16_5, er16_6, er16_7, hone, hcl, hr, hR, d1, d2, d3, d4, hf, rv, resK, resVs, resV, pack, viewG0]
    by_cases c3 : a = b
    · have hf : addE n es a b = (0, [], 1) := by rw [addE_def, hR]; rw [if_neg (by simp), if_neg (by omega), if_pos c3]
      subst c3
      simp [-List.getD_eq_getElem?_getD, -Int.ofNat_toNat, -getElem?_pos, er16_0, er16_1, er16_2, er16_3, er16_4, er16_5, er16_6, er16_7, hone, hcl, hr, hR, d1, d3, hf, rv, resK, resVs, resV, pack, viewG0]
    have hf : addE n es a b = normalE n (es ++ [(a, b)]) := by rw [addE_def, hR]; rw [if_neg (by simp), if_neg (by omega), if_neg c3]
    have hsrc := hv.src
    have ho : OwnE false 4 [Ob.cells 0 false [AV.int IntKind.i64 n, v], Ob.cells 0 false [AV.int IntKind.i64 0, AV.nils], Ob.cells 0 false [], Ob.dead] (.sl 2 0 0 0 2 0 true) [] := ownE_empty _ _ _ _ _
    obtain ⟨v', H', x1, x2, x3, x4, x5⟩ := Own.app (bytes := 16) ho (hsrc _) (by rw [cellsE_length]) (ones_cE es) (by simp) (by simp; omega)
    have x2' : OwnE false 4 H' v' es := by simpa [cellsE] using x2
    have hlow0 : ∀ b, b < 4 → H'[b]? = [Ob.cells 0 false [AV.int IntKind.i64 n, v], Ob.cells 0 false [AV.int IntKind.i64 0, AV.nils], Ob.cells 0 false [], Ob.dead][b]? := fun b hb => x3 b (by simp; omega) (by simp [blkOf])
    simp [-List.getD_eq_getElem?_getD, -Int.ofNat_toNat, -getElem?_pos, er16_0, er16_1, er16_2, er16_3, er16_4, er16_5, er16_6, er16_7, hone, hcl, hr, hR, d1, d2, d3, d4, c3, x1]
    refine ⟨hlow0 0 (by omega), ?_⟩
    simp only [List.getD_cons_succ, List.getD_cons_zero]
    have hl4 : 4 ≤ H'.length := by simpa using x4
    have x1' : OwnE false 4 (H'.set 3 (.cells 0 false [.int .i64 a, .int .i64 b])) v' es := Own.keep x2' fun b hb hbv => List.getElem?_set_ne (by have := (Own.blk x2' hbv).1; omega)
    have e0' : (H'.set 3 (.cells 0 false [.int .i64 a, .int .i64 b]))[0]? = some (.cells 0 false [.int .i64 n, v]) := by rw [List.getElem?_set_ne (by omega), hlow0 0 (by omega)]; rfl
    have e1' : (H'.set 3 (.cells 0 false [.int .i64 a, .int .i64 b]))[1]? = some (.cells 0 false [.int .i64 0, .nils]) := by rw [List.getElem?_set_ne (by omega), hlow0 1 (by omega)]; rfl
    have e2' : (H'.set 3 (.cells 0 false [.int .i64 a, .int .i64 b]))[3]? = some (.cells 0 false [.int .i64 a, .int .i64 b]) := List.getElem?_set_self (by omega)
    have hz0 : (H'.set 3 (.cells 0 false [.int .i64 a, .int .i64 b]))[0]? = H'[0]? := List.getElem?_set_ne (by omega)
    generalize H'.set 3 (.cells 0 false [.int .i64 a, .int .i64 b]) = H2 at *
    have hsrc : srcCells H2 2 (.sl 3 0 0 1 2 1 true) = some (1, [.int .i64 a, .int .i64 b]) := by simp [srcCells, rdSl, e2']
    obtain ⟨w, H3, y1, y2, y3, y4, y5⟩ := Own.app (bytes := 16) x1' hsrc rfl rfl (lt_of_get e2') (by omega)
    have y2' : OwnE false 4 H3 w (es ++ [(a, b)]) := by rw [OwnE, cellsE_append]; simpa [cellsE] using y2
    have hlow : ∀ b, b < 4 → H3[b]? = H2[b]? := fun b hb => y3 b (by have := lt_of_get e2'; omega) (fun h => by have := (Own.blk x1' h).1; omega)
    obtain ⟨H4, hva, hvl, hvk⟩ := Own.viewA (pre := [.int .i64 n]) (post := []) y2' (closeds_cE _) rfl rfl
    simp only [List.cons_append, List.nil_append] at hva
    have z1 : H4[1]? = some (.cells 0 false [.int .i64 0, .nils]) := by rw [hvk 1 (fun h => by have := (Own.blk y2' h).1; omega), hlow 1 (by omega)]; exact e1'
    have hNE := (h3 n _ (es ++ [(a, b)]) (is_rv (nl := false) (cellsE_length _) (closeds_cE _)) (by simp; omega)).eq
    rw [show (es ++ [(a, b)]).length = es.length + 1 by simp] at hNE hva
    have hl0 := hlow 0 (by omega)
    have hset : ∀ z, (H4.set 1 z)[1]? = some z := fun z => List.getElem?_set_self (lt_of_get z1)
    simp [-List.getD_eq_getElem?_getD, -Int.ofNat_toNat, -getElem?_pos, er16_0, er16_1, er16_2, er16_3, er16_4, er16_5, er16_6, er16_7, y1, hva, hNE, hl0, nR, z1, rE_one, rE_cells, rE_closed, hset, resK, resVs, resV, pack, hf]
    exact hz0
  · simp only [Bool.not_eq_true] at hR
    have hf : addE n es a b = (0, [], 1) := by rw [addE_def, if_pos hR]
    simp [-List.getD_eq_getElem?_getD, -Int.ofNat_toNat, -getElem?_pos, er16_0, er16_1, er16_2, er16_3, er16_4, er16_5, er16_6, er16_7, hone, hcl, hr, hR, hf, rv, resK, resVs, resV, pack, viewG0]
theorem RdV.setLow {nl : Bool} {H : Heap} {v : AV} {es : List Ed} {k g : Nat} {ro : Bool} {c c' : List AV} (h : RdV nl H v es) (hb : blkOf v ≠ some k) (hk : H[k]? = some (.cells g ro c)) : RdV nl (H.set k (.cells g ro c')) v es := by
  rcases h with h | ⟨a1, b, g1, o, cl, ex, ro1, c1, rfl, hb1, hr⟩
  · exact .inl h
  · by_cases h0 : es.length = 0
    · have he : es = [] := List.length_eq_zero_iff.1 h0
      subst he
      by_cases e : b = k
      · subst e
        rw [hk] at hb1; cases hb1
        exact .inr ⟨a1, b, g, o, cl, ex, ro, c', rfl, List.getElem?_set_self (lt_of_get hk), fun i hi => by simp at hi⟩
      · exact .inr ⟨a1, b, g1, o, cl, ex, ro1, c1, rfl, by rw [List.getElem?_set_ne (fun h => e h.symm)]; exact hb1, hr⟩
    · have e : ¬ b = k := fun e => hb (by simp only [blkOf]; rw [if_neg h0, e])
      exact .inr ⟨a1, b, g1, o, cl, ex, ro1, c1, rfl, by rw [List.getElem?_set_ne (fun h => e h.symm)]; exact hb1, hr⟩
theorem idxOf_get {es : List Ed} {x : Ed} (h : x ∈ es) : es.idxOf x < es.length ∧ es.eraseIdx (es.idxOf x) = es.erase x := ⟨List.idxOf_lt_length_of_mem h, (List.erase_eq_eraseIdx_of_idxOf rfl).symm⟩
abbrev gW (x : Int × List Ed × Int) : AV := .tup [gV x.1 (rv (decide (x.2.2 ≠ 0)) x.2.1.length 2 (cellsE x.2.1)), .int .i64 x.2.2]
theorem w_Without (h : Has A (φ 17) (f17 φ)) (h2 : RightC A (φ 4)) (h3 : Has A (φ 33) (f33 φ)) (h4 : Has A (φ 32) (f32 φ)) (h5 : Has A (φ 34) (f34 φ)) (n a b : Int) (v : AV) (es : List Ed) (hv : IsE v es) :
    PVal A (φ 17) [gV n v, .int .i64 a, .int .i64 b] (gW (withoutE n es a b)) := by
  have hone := hv.one
  have hcl := hv.closed
  have hr := (h2 n v es hv).eq
  have m1 := minV_i a b
  have m2 := maxV_i a b
  have hdef : withoutE n es a b = if rightE n es = false then (0, [], 1) else if (min a b, max a b) ∈ es then (n, es.erase (min a b, max a b), 0) else (0, [], 6) := rfl
  generalize min a b = mn at *
  generalize max a b = mx at *
  refine pval_has h rfl ?_
  simp only [b17, f17]
  by_cases hR : rightE n es = true
  · have hl := right_len hR
    have hix := (w_Index h3 v es (mn, mx) hv (by omega)).eq
    simp only [gE, aE] at hix
    by_cases hm : (mn, mx) ∈ es
    · have hf : withoutE n es a b = (n, es.erase (mn, mx), 0) := by rw [hdef, hR, if_neg (by simp), if_pos hm]
      obtain ⟨k1, k2⟩ := idxOf_get hm
      have hie : idxE es (mn, mx) = (es.idxOf (mn, mx) : Nat) := by unfold idxE; rw [if_pos hm]
      rw [hie] at hix
      generalize es.idxOf (mn, mx) = i at *
      have hw := wrap1 k1 (by omega)
      have hi0 : ¬ (i : Int) < 0 := by omega
      simp [-List.getD_eq_getElem?_getD, -Int.ofNat_toNat, -getElem?_pos, er17_0, er17_1, er17_2, er17_3, er17_4, er17_5, er17_6, hone, hcl, hr, hR, foldV, m1, m2, hix, hw, hi0]
      refine w_Clone h4 hv (by omega) fun nl v' H' x1 x2 x3 => ?_
      simp only [hid_k]
      have e0 : H'[0]? = some (.cells 0 false [.int .i64 n, v]) := by rw [x2 0 (by simp)]; rfl
      have e1 : H'[1]? = some (.cells 0 false [.int .i64 0, .nils]) := by rw [x2 1 (by simp)]; rfl
      simp only [List.length_cons, List.length_nil, Nat.zero_add, Nat.reduceAdd] at x3 x1
      refine ⟨fun b hb => by simp at hb; subst hb; exact e0, ?_⟩
      simp [-List.getD_eq_getElem?_getD, -Int.ofNat_toNat, -getElem?_pos, er17_0, er17_1, er17_2, er17_3, er17_4, er17_5, er17_6]
      refine w_Delete h5 x1 k1 (by omega) fun v2 H2 d1 d2 d3 d4 d5 => ?_
      simp only [hid_k]
      have e1' : H2[1]? = some (.cells 0 false [.int .i64 0, .nils]) := by rw [d2 1 (by omega)]; exact e1
      have hset : ∀ z, (H2.set 1 z)[1]? = some z := fun z => List.getElem?_set_self (lt_of_get e1')
      have hz := RdV.setLow (c' := [.int .i64 n, v2]) d1 (fun h => by have := d5 1 h; omega) e1'
      rw [k2] at hz d1
      have hgoal := hz.viewG n 0
      simp [-List.getD_eq_getElem?_getD, -Int.ofNat_toNat, -getElem?_pos, er17_0, er17_1, er17_2, er17_3, er17_4, er17_5, er17_6, e1', hset, d1.one, d1.cells, d1.part, hf, resK, resVs, resV, pack, hgoal]
      exact d2 0 (by omega)
    · have hf : withoutE n es a b = (0, [], 6) := by rw [hdef, hR, if_neg (by simp), if_neg hm]
      have hie : idxE es (mn, mx) = -1 := by unfold idxE; rw [if_neg hm]
      rw [hie] at hix
      simp [-List.getD_eq_getElem?_getD, -Int.ofNat_toNat, -getElem?_pos, er17_0, er17_1, er17_2, er17_3, er17_4, er17_5, er17_6, hone, hcl, hr, hR, foldV, m1, m2, hix, hf, rv, resK, resVs, resV, pack, viewG0]
  · simp only [Bool.not_eq_true] at hR
    have hf : withoutE n es a b = (0, [], 1) := by rw [hdef, if_pos hR]
    simp [-List.getD_eq_getElem?_getD, -Int.ofNat_toNat, -getElem?_pos, er17_0, er17_1, er17_2, er17_3, er17_4, er17_5, er17_6, hone, hcl, hr, hR, hf, rv, resK, resVs, resV, pack, viewG0]
theorem right_strict {n : Int} {es : List Ed} (h : rightE n es = true) : es.Pairwise ltE := by
  unfold rightE at h
  simp only [Bool.and_eq_true] at h
  have hs := List.all_eq_true.1 h.2
  have hadj : ∀ i (hi : i + 1 < es.length), ltE es[i] es[i + 1] := by
    intro i hi
    have := hs (i + 1) (List.mem_range.2 hi)
    simp only [stepE, List.getD_eq_getElem?_getD, List.getElem?_eq_getElem hi, List.getElem?_eq_getElem (show i < es.length by omega), Option.getD_some, Bool.and_eq_true, Bool.or_eq_true, beq_iff_eq, decide_eq_true_eq, Nat.add_sub_cancel] at this
    rcases this.2 with h | h
    · omega
    · exact (cmpE_neg _ _).1 h
  rw [List.pairwise_iff_getElem]
  intro i j hi hj hij
  obtain ⟨d, rfl⟩ : ∃ d, j = i + 1 + d := ⟨j - i - 1, by omega⟩
  clear hij
  induction d with
  | zero => exact hadj i hj
  | succ d ih => exact ltE_trans (ih (by omega)) (hadj (i + 1 + d) hj)
theorem strict_erase : ∀ {es : List Ed} (x : Ed), es.Pairwise ltE → es.erase x = es.filter (fun y => decide (y ≠ x))
  | [], x, _ => rfl
  | y :: l, x, h => by
    rw [List.erase_cons]
    by_cases e : y = x
    · subst e
      have hno : ∀ z ∈ l, z ≠ y := fun z hz e => by
        have := List.rel_of_pairwise_cons h hz
        rw [e] at this; exact ltE_irrefl _ this
      rw [if_pos (by simp), List.filter_cons_of_neg (by simp), List.filter_eq_self.2 (fun z hz => by simpa using hno z hz)]
    · rw [if_neg (by simpa using e), List.filter_cons_of_pos (by simpa using e), strict_erase x (List.Pairwise.of_cons h)]
theorem hasE_min {n : Int} {es : List Ed} (h : rightE n es = true) (a b : Int) : hasE n es a b = decide ((min a b, max a b) ∈ es) := by
  have hlt : ∀ x ∈ es, x.1 < x.2 := by
    intro x hx
    obtain ⟨i, hi, rfl⟩ := List.getElem_of_mem hx
    exact (right_step h hi).2.1
  unfold hasE
  rw [h, Bool.true_and, ← Bool.decide_or, decide_eq_decide]
  rcases Int.lt_or_le a b with hab | hab
  · rw [Int.min_eq_left (by omega), Int.max_eq_right (by omega)]
    exact ⟨fun h => h.elim id (fun h => by have := hlt _ h; simp at this; omega), .inl⟩
  · rw [Int.min_eq_right (by omega), Int.max_eq_left (by omega)]
    exact ⟨fun h => h.elim (fun h => by have := hlt _ h; simp at this; omega) id, .inr⟩
set_option maxHeartbeats 1000000 in
theorem w_RWithout (h : Has A (φ 18) (f18 φ)) (h2 : RightC A (φ 6)) (h3 : ∀ n a b v es, IsE v es → PVal A (φ 8) [gV n v, .int .i64 a, .int .i64 b] (.bool (hasE n es a b))) (n a b : Int) (v : AV) (es : List Ed) (hv : IsE v es) :
    PVal A (φ 18) [gV n v, .int .i64 a, .int .i64 b] (gR (withoutE n es a b)) := by
  have hone := hv.one
  have hcl := hv.closed
  have hlen := hv.len
  have hr := (h2 n v es hv).eq
  have hh := (h3 n a b v es hv).eq
  have m1 := minV_i a b
  have m2 := maxV_i a b
  have hdef : withoutE n es a b = if rightE n es = false then (0, [], 1) else if (min a b, max a b) ∈ es then (n, es.erase (min a b, max a b), 0) else (0, [], 6) := rfl
  by_cases hR : rightE n es = true
  · have hl := right_len hR
    rw [hasE_min hR] at hh
    generalize min a b = mn at *
    generalize max a b = mx at *
    refine pval_has h rfl ?_
    simp only [l18_11, b18, f18]
    by_cases hm : (mn, mx) ∈ es
    · have hf : withoutE n es a b = (n, es.erase (mn, mx), 0) := by rw [hdef, hR, if_neg (by simp), if_pos hm]
      have her := strict_erase (mn, mx) (right_strict hR)
      simp [-List.getD_eq_getElem?_getD, -Int.ofNat_toNat, -getElem?_pos, er18_0, er18_1, er18_2, er18_3, er18_4, er18_5, er18_6, er18_7, er18_8, er18_9, er18_10, er18_12, hone, hcl, hr, hR, hh, hm]
      refine pc_loopI (fun m st => ∃ (i : Nat) (o p q : AV) (H : Heap), i + m = es.length ∧ OwnE true 3 H o ((es.take i).filter (fun y => decide (y ≠ (mn, mx)))) ∧ H[0]? = some (.cells 0 false [.int .i64 n, v]) ∧ H[1]? = some (.cells 0 false [.int .i64 0, .nils]) ∧ H[2]? = some (.cells 0 false [.int .i64 n, o]) ∧
        st = ([gV n v, .int .i64 a, .int .i64 b, .ptr 0 0 0, .ptr 1 0 0, .int .i64 0, .ptr 2 0 0, .int .i64 i, .bool false, .bool false, p, q], H)) es.length ⟨0, .nils, _, _, _, by simp, own_nil _ _ _, rfl, rfl, rfl, rfl⟩ ?_
      rintro m st ⟨i, o, p, q, H, hi, ho, e0, e1, e2, rfl⟩
      by_cases hlt : i < es.length
      · have hlt' : (i : Int) < es.length := by omega
        obtain ⟨i1, g1', g2', le1, t1⟩ := hv.at hlt
        have hw1 := wrap1 hlt (by omega)
        have hsn : (es.take (i + 1)).filter (fun y => decide (y ≠ (mn, mx))) = (es.take i).filter (fun y => decide (y ≠ (mn, mx))) ++ (if es[i] = (mn, mx) then [] else [es[i]]) := by
          rw [List.take_succ_eq_append_getElem hlt, List.filter_append]
          by_cases e : es[i] = (mn, mx) <;> simp [e]
        have hpr : es[i] = (mn, mx) ↔ es[i].1 = mn ∧ es[i].2 = mx := Prod.ext_iff
        have hfl : ((es.take i).filter (fun y => decide (y ≠ (mn, mx)))).length < 1000000000000 := by
          have := List.length_filter_le (fun y => decide (y ≠ (mn, mx))) (es.take i)
          simp at this ⊢; omega
        obtain ⟨o1, H1, x1, x2, x3, _, _, _⟩ := OwnE.app1 ho es[i].1 es[i].2 (lt_of_get e2) hfl
        have e2' : H1[2]? = some (.cells 0 false [.int .i64 n, o]) := by rw [x3 2 (by omega)]; exact e2
        have hone1 : o1.one = true := Own.one x2
        have hcell1 : o1.cells = [o1] := Own.cells x2
        by_cases hx : es[i].1 = mn ∧ es[i].2 = mx
        · rw [if_pos (hpr.2 hx), List.append_nil] at hsn
          obtain ⟨hx1, hx2⟩ := hx
          simp [-List.getD_eq_getElem?_getD, -Int.ofNat_toNat, -getElem?_pos, er18_0, er18_1, er18_2, er18_3, er18_4, er18_5, er18_6, er18_7, er18_8, er18_9, er18_10, er18_12, hlen, hlt', e0, i1, g1', g2', foldV, m1, m2, hx1, hx2, hw1]
          exact next_mk (m - 1) (by omega) ⟨i + 1, o, _, _, H, by omega, by rw [hsn]; exact ho, e0, e1, e2, rfl⟩
        · rw [if_neg (fun h => hx (hpr.1 h))] at hsn
          have fin : nextC (fun m st => ∃ (i : Nat) (o p q : AV) (H : Heap), i + m = es.length ∧ OwnE true 3 H o ((es.take i).filter (fun y => decide (y ≠ (mn, mx)))) ∧ H[0]? = some (.cells 0 false [.int .i64 n, v]) ∧ H[1]? = some (.cells 0 false [.int .i64 0, .nils]) ∧ H[2]? = some (.cells 0 false [.int .i64 n, o]) ∧
            st = ([gV n v, .int .i64 a, .int .i64 b, .ptr 0 0 0, .ptr 1 0 0, .int .i64 0, .ptr 2 0 0, .int .i64 i, .bool false, .bool false, p, q], H)) () m ([gV n v, .int .i64 a, .int .i64 b, .ptr 0 0 0, .ptr 1 0 0, .int .i64 0, .ptr 2 0 0, .int .i64 ((i : Int) + 1), .bool false, .bool false, .bool true, .bool true], H1.set 2 (.cells 0 false [.int .i64 n, o1])) := by
            refine next_mk (m - 1) (by omega) ⟨i + 1, o1, _, _, H1.set 2 (.cells 0 false [.int .i64 n, o1]), by omega, ?_, ?_, ?_, List.getElem?_set_self (lt_of_get e2'), rfl⟩
            · rw [hsn]; exact Own.keep x2 fun b hb hbv => List.getElem?_set_ne (by have := (Own.blk x2 hbv).1; omega)
            · rw [List.getElem?_set_ne (by omega), x3 0 (by omega)]; exact e0
            · rw [List.getElem?_set_ne (by omega), x3 1 (by omega)]; exact e1
          by_cases k1 : es[i].1 = mn
          · have k2 : ¬ es[i].2 = mx := fun h => hx ⟨k1, h⟩
            rw [k1] at x1
            simp [-List.getD_eq_getElem?_getD, -Int.ofNat_toNat, -getElem?_pos, er18_0, er18_1, er18_2, er18_3, er18_4, er18_5, er18_6, er18_7, er18_8, er18_9, er18_10, er18_12, hlen, hlt', e0, e2, e2', i1, g1', g2', le1, t1, foldV, m1, m2, k1, k2, hw1, x1, hone1, hcell1, setAt]
            simpa using fin
          · simp [-List.getD_eq_getElem?_getD, -Int.ofNat_toNat, -getElem?_pos, er18_0, er18_1, er18_2, er18_3, er18_4, er18_5, er18_6, er18_7, er18_8, er18_9, er18_10, er18_12, hlen, hlt', e0, e2, e2', i1, g1', g2', le1, t1, foldV, m1, m2, k1, hw1, x1, hone1, hcell1, setAt]
            simpa using fin
      · have hlt' : ¬ (i : Int) < es.length := by omega
        have hm2 : es.take i = es := List.take_of_length_le (by omega)
        rw [hm2, ← her] at ho
        have hset : ∀ z, (H.set 1 z)[1]? = some z := fun z => List.getElem?_set_self (lt_of_get e1)
        have hz : RdV true (H.set 1 (.cells 0 false [.int .i64 n, o])) o (es.erase (mn, mx)) := OwnE.rd (P := 3) (Own.keep ho fun b hb hbe => List.getElem?_set_ne (by have := (Own.blk ho hbe).1; omega)) (fun h => by cases h)
        have hgoal := hz.viewG n 0
        simp [-List.getD_eq_getElem?_getD, -Int.ofNat_toNat, -getElem?_pos, er18_0, er18_1, er18_2, er18_3, er18_4, er18_5, er18_6, er18_7, er18_8, er18_9, er18_10, er18_12, hlen, hlt', e0, e1, e2, hset, Own.one ho, Own.cells ho, hf, resK, resVs, resV, pack, hgoal]
    · have hf : withoutE n es a b = (0, [], 6) := by rw [hdef, hR, if_neg (by simp), if_neg hm]
      simp [-List.getD_eq_getElem?_getD, -Int.ofNat_toNat, -getElem?_pos, er18_0, er18_1, er18_2, er18_3, er18_4, er18_5, er18_6, er18_7, er18_8, er18_9, er18_10, er18_12, hone, hcl, hr, hR, hh, hm, hf, rv, resK, resVs, resV, pack, viewG0]
  · simp only [Bool.not_eq_true] at hR
    have hf : withoutE n es a b = (0, [], 1) := by rw [hdef, if_pos hR]
    refine pval_has h rfl ?_
    simp only [l18_11, b18, f18]
    simp [-List.getD_eq_getElem?_getD, -Int.ofNat_toNat, -getElem?_pos, er18_0, er18_1, er18_2, er18_3, er18_4, er18_5, er18_6, er18_7, er18_8, er18_9, er18_10, er18_12, hone, hcl, hr, hR, hf, rv, resK, resVs, resV, pack, viewG0]
end Go.Ai.G
