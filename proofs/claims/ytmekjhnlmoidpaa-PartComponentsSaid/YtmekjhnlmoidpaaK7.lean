/- A part of what the law leans on: the abstract machine, the contracts, the rows. -/
import Derived.Test.YtmekjhnlmoidpaaK6
import Derived.Test.YtmekjhnlmoidpaaK5
/- Numbers that lead to their class's own: the ways get shorter. -/
namespace Go.Ai
set_option linter.unusedVariables false
def upn (up : List Int) (i : Nat) : Nat := (up.getD i 0).toNat
/-- The way to a class's own number, and what is left behind; at most so many steps. -/
def topF : Nat → List Int → Nat → Nat × List Int
  | 0, up, a => (a, up)
  | f + 1, up, a => if upn up a = a then (a, up) else topF f (up.set a (upn up (upn up a) : Int)) (upn up (upn up a))
/-- The numbers lead to r; d falls on the way. -/
structure Dec (N : Nat) (r : Nat → Nat) (up : List Int) (d : Nat → Nat) : Prop where
  len : up.length = N
  nn : ∀ i, i < N → up[i]? = some ((upn up i : Nat) : Int)
  lt : ∀ i, i < N → upn up i < N
  cls : ∀ i, i < N → r (upn up i) = r i
  fix : ∀ i, i < N → (upn up i = i ↔ r i = i)
  rlt : ∀ i, i < N → r i < N
  rr : ∀ i, i < N → r (r i) = r i
  dec : ∀ i, i < N → upn up i ≠ i → d (upn up i) < d i
theorem upn_set {up : List Int} {a : Nat} (c : Nat) (ha : a < up.length) (i : Nat) : upn (up.set a (c : Int)) i = if i = a then c else upn up i := by
  unfold upn
  rw [List.getD_eq_getElem?_getD, List.getElem?_set]
  by_cases h : i = a
  · subst h; rw [if_pos rfl, if_pos rfl, if_pos ha]; simp
  · rw [if_neg (fun e => h e.symm), if_neg h, List.getD_eq_getElem?_getD]
theorem Dec.step {N : Nat} {r : Nat → Nat} {up : List Int} {d : Nat → Nat} (h : Dec N r up d) {a : Nat} (ha : a < N) (hne : upn up a ≠ a) : Dec N r (up.set a (upn up (upn up a) : Int)) d ∧ upn up (upn up a) < N ∧ d (upn up (upn up a)) < d a ∧ r (upn up (upn up a)) = r a := by
  have hb := h.lt a ha
  have hc := h.lt _ hb
  have hd1 := h.dec a ha hne
  have hd2 : d (upn up (upn up a)) ≤ d (upn up a) := by
    by_cases e : upn up (upn up a) = upn up a
    · rw [e]; exact Nat.le_refl _
    · exact Nat.le_of_lt (h.dec _ hb e)
  have hr : r (upn up (upn up a)) = r a := (h.cls _ hb).trans (h.cls a ha)
  have hcne : upn up (upn up a) ≠ a := fun e => by rw [e] at hd2; omega
  have hs := fun i => upn_set (upn up (upn up a)) (by rw [h.len]; exact ha) i
  refine ⟨⟨by rw [List.length_set]; exact h.len, fun i hi => ?_, fun i hi => ?_, fun i hi => ?_, fun i hi => ?_, h.rlt, h.rr, fun i hi hn => ?_⟩, hc, by omega, hr⟩
  · rw [hs, List.getElem?_set]
    by_cases e : i = a
    · subst e; rw [if_pos rfl, if_pos rfl, if_pos (by rw [h.len]; exact hi)]
    · rw [if_neg (fun x => e x.symm), if_neg e]; exact h.nn i hi
  · rw [hs]; split
    · exact hc
    · exact h.lt i hi
  · rw [hs]; split
    · rename_i e; subst e; exact hr
    · exact h.cls i hi
  · rw [hs]; split
    · rename_i e; subst e
      constructor
      · intro e; exact absurd e hcne
      · intro e; exact absurd ((h.fix _ hi).2 e) hne
    · exact h.fix i hi
  · rw [hs] at hn ⊢
    split
    · rename_i e; subst e; omega
    · rename_i e; rw [if_neg e] at hn; exact h.dec i hi hn
theorem topF_spec {N : Nat} {r : Nat → Nat} {d : Nat → Nat} : ∀ (f : Nat) {up : List Int} {a : Nat}, Dec N r up d → a < N → d a ≤ f → (topF f up a).1 = r a ∧ Dec N r (topF f up a).2 d
  | 0, up, a, h, ha, hf => by
    have : r a = a := by
      refine (h.fix a ha).1 (Decidable.byContradiction fun e => ?_)
      have := h.dec a ha e
      omega
    exact ⟨this.symm, h⟩
  | f + 1, up, a, h, ha, hf => by
    rw [topF]
    by_cases e : upn up a = a
    · rw [if_pos e]; exact ⟨((h.fix a ha).1 e).symm, h⟩
    · rw [if_neg e]
      obtain ⟨h1, h2, h3, h4⟩ := h.step ha e
      obtain ⟨k1, k2⟩ := topF_spec f h1 h2 (by omega)
      exact ⟨k1.trans h4, k2⟩
theorem topF_stop {f : Nat} {up : List Int} {a : Nat} (e : upn up a = a) : topF f up a = (a, up) := by
  cases f with
  | zero => rfl
  | succ f => rw [topF, if_pos e]
end Go.Ai
namespace Go.Ai.G
open Go.Ai
set_option maxRecDepth 100000
set_option linter.unusedSimpArgs false
set_option linter.unusedVariables false
variable {A : AProg} {φ : Nat → Nat}
attribute [local simp ↓] getD_z getD_s hid_k hid_o hid_q hid_v PO_nil PO_none PO_grd PD_nil PD_none PD_grd PDO_N PDO_X PDO_call PDO_calli PDO_callv PStep_N PStep_X PStep_call PStep_calli PC_skip PC_lab
  PC_ret PC_exit PC_reg PC_draw PC_seq PC_block PC_loop PC_scope PC_cond thenC_norm thenC_ret thenC_exit blockC_norm blockC_ret blockC_exit loopC_norm loopC_ret loopC_exit endR_ret
  endR_norm
attribute [local simp] gz PDX_free PDX_eq PStep_callv resK_none resK_t resK_tt KNO_val KNO_new KNO_ite KNO_map KXO_some KXO_ite KVA_t KVA_f KG_skip KG_tt KG_ff KG_tf KG_ft KB_true KB_false KNOD_val
  KNOD_new KNOD_ite n_mv n_pick n_bin n_eqB n_eqN n_eqS n_un n_conv n_fadd n_faddV n_fld1 n_fldN n_idx n_idxA n_idxV n_idxAV n_ext n_lenS n_lenS0 n_lenV n_lenT n_lenA n_min n_max
  n_build n_mkfn n_slc n_slc0 n_slcV n_slcA n_load1 n_loadN n_load1V n_loadNV n_alloc n_box n_bsl n_mksl n_nilcP n_nilcV n_nilcI n_nilcF x_store x_clear0 x_clear b_add b_sub b_mul
  b_eql b_neq b_lss b_leq b_gtr b_geq b_and16 unV ntouch gather hide unhide evalOpd applyOuts int_bne int_beq ite_bool ite_int one_bool cells_bool one_int cells_int one_str cells_str
  one_nilp cells_nilp one_ptr cells_ptr one_nils cells_nils one_sl cells_sl one_nilf cells_nilf one_fn cells_fn one_nili cells_nili one_mp cells_mp one_nilm cells_nilm one_iface
  cells_iface one_vs cells_vs one_vp cells_vp cells_agg Nat.testBit setAt_1 setAt_2 closeds_nil closeds_cons closed_bool closed_int closed_str closed_nilp closed_nils closed_nilm
  closed_nilf closed_nili closed_agg closed_tup closed_vs closed_vp closed_iface closed_fn closeds_cI closeds_cE viewA_closed viewR_closed AV.scal AV.scal0 fillA repA part_bool
  part_int part_str part_nilp part_ptr part_nils part_sl part_nilm part_mp part_nilf part_fn part_nili part_iface part_agg part_vs part_vp viewA_sl1 vaSl_cells wrap_0 wrap_1 wrap_2
  wrap_m1 set_last get_last
theorem er11_0 (φ : Nat → Nat) : r11_0 φ = [
  ⟨0, .N .mv, [.c (.bool false)], none, 0⟩] := Eq.trans rfl rfl
theorem er11_1 (φ : Nat → Nat) : r11_1 φ = [
  ⟨0, .N .mv, [.n 0], none, 0⟩,
  ⟨1, .N .lenS, [.l 0], none, 0⟩,
  ⟨2, .N .mv, [.n 1], none, 0⟩,
  ⟨3, .N .lenS, [.l 0], none, 0⟩,
  ⟨4, .N (.bin .neq), [.l 2, .l 0], none, 0⟩] := Eq.trans rfl rfl
theorem er11_2 (φ : Nat → Nat) : r11_2 φ = [
  ⟨0, .N .mv, [.c (.bool false)], none, 0⟩] := Eq.trans rfl rfl
theorem er11_3 (φ : Nat → Nat) : r11_3 φ = [
  ⟨0, .N .mv, [.c (.int .i64 0)], none, 0⟩] := Eq.trans rfl rfl
theorem er11_4 (φ : Nat → Nat) : r11_4 φ = [
  ⟨0, .N .mv, [.n 3], none, 0⟩,
  ⟨1, .N .mv, [.n 0], none, 0⟩,
  ⟨2, .N .lenS, [.l 0], none, 0⟩,
  ⟨3, .N (.bin .lss), [.l 2, .l 0], none, 0⟩] := Eq.trans rfl rfl
theorem er11_5 (φ : Nat → Nat) : r11_5 φ = [
  ⟨0, .N .mv, [.n 0], none, 0⟩,
  ⟨1, .N .mv, [.n 3], none, 0⟩,
  ⟨2, .N (.idx 1), [.l 1, .l 0], none, 3⟩,
  ⟨3, .N .load1, [.l 0], none, 7⟩,
  ⟨4, .N .mv, [.n 1], none, 0⟩,
  ⟨5, .N .mv, [.n 3], none, 0⟩,
  ⟨6, .N (.idx 1), [.l 1, .l 0], none, 48⟩,
  ⟨7, .N .load1, [.l 0], none, 112⟩,
  ⟨8, .N (.bin .neq), [.l 4, .l 0], none, 255⟩] := Eq.trans rfl rfl
theorem er11_6 (φ : Nat → Nat) : r11_6 φ = [
  ⟨0, .N .mv, [.c (.bool false)], none, 0⟩] := Eq.trans rfl rfl
theorem er11_7 (φ : Nat → Nat) : r11_7 φ = [
  ⟨0, .N .mv, [.n 3], none, 0⟩,
  ⟨1, .N (.bin .add), [.l 0, .c (.int .i64 1)], none, 0⟩,
  ⟨2, .N .mv, [.l 0], none, 0⟩] := Eq.trans rfl rfl
theorem er11_9 (φ : Nat → Nat) : r11_9 φ = [
  ⟨0, .N .mv, [.c (.bool true)], none, 0⟩] := Eq.trans rfl rfl
theorem er25_0 (φ : Nat → Nat) : r25_0 φ = [
  ⟨0, .N .mv, [.c (.bool false)], none, 0⟩] := Eq.trans rfl rfl
theorem er25_1 (φ : Nat → Nat) : r25_1 φ = [
  ⟨0, .N .mv, [.c (.int .i64 0)], none, 0⟩] := Eq.trans rfl rfl
theorem er25_2 (φ : Nat → Nat) : r25_2 φ = [
  ⟨0, .N .mv, [.n 3], none, 0⟩,
  ⟨1, .N .mv, [.n 0], none, 0⟩,
  ⟨2, .N .lenS, [.l 0], none, 0⟩,
  ⟨3, .N (.bin .lss), [.l 2, .l 0], none, 0⟩] := Eq.trans rfl rfl
theorem er25_3 (φ : Nat → Nat) : r25_3 φ = [
  ⟨0, .N .mv, [.n 0], none, 0⟩,
  ⟨1, .N .mv, [.n 3], none, 0⟩,
  ⟨2, .N (.idx 1), [.l 1, .l 0], none, 0⟩,
  ⟨3, .N .load1, [.l 0], none, 0⟩,
  ⟨4, .N .mv, [.n 1], none, 0⟩,
  ⟨5, .N (.bin .eql), [.l 1, .l 0], none, 0⟩] := Eq.trans rfl rfl
theorem er25_4 (φ : Nat → Nat) : r25_4 φ = [
  ⟨0, .N .mv, [.c (.bool true)], none, 0⟩] := Eq.trans rfl rfl
theorem er25_5 (φ : Nat → Nat) : r25_5 φ = [
  ⟨0, .N .mv, [.n 3], none, 0⟩,
  ⟨1, .N (.bin .add), [.l 0, .c (.int .i64 1)], none, 0⟩,
  ⟨2, .N .mv, [.l 0], none, 0⟩] := Eq.trans rfl rfl
theorem er25_7 (φ : Nat → Nat) : r25_7 φ = [
  ⟨0, .N .mv, [.c (.bool false)], none, 0⟩] := Eq.trans rfl rfl
theorem er30_0 (φ : Nat → Nat) : r30_0 φ = [
  ⟨0, .N .mv, [.c (.nils)], none, 0⟩] := Eq.trans rfl rfl
theorem er30_1 (φ : Nat → Nat) : r30_1 φ = [
  ⟨0, .N (.bsl [.int .i64 0] 0 1 []), [], none, 0⟩,
  ⟨1, .N .mv, [.l 0], none, 0⟩] := Eq.trans rfl rfl
theorem er30_2 (φ : Nat → Nat) : r30_2 φ = [
  ⟨0, .N .mv, [.c (.int .i64 0)], none, 0⟩] := Eq.trans rfl rfl
theorem er30_3 (φ : Nat → Nat) : r30_3 φ = [
  ⟨0, .N .mv, [.n 3], none, 0⟩,
  ⟨1, .N .mv, [.n 0], none, 0⟩,
  ⟨2, .N .lenS, [.l 0], none, 0⟩,
  ⟨3, .N (.bin .lss), [.l 2, .l 0], none, 0⟩] := Eq.trans rfl rfl
theorem er30_4 (φ : Nat → Nat) : r30_4 φ = [
  ⟨0, .N .mv, [.n 2], none, 0⟩,
  ⟨1, .N .lenS, [.l 0], none, 0⟩,
  ⟨2, .N .mv, [.l 0], none, 0⟩] := Eq.trans rfl rfl
theorem er30_5 (φ : Nat → Nat) : r30_5 φ = [
  ⟨0, .N .mv, [.n 4], none, 0⟩,
  ⟨1, .N (.bin .gtr), [.l 0, .c (.int .i64 0)], none, 1⟩,
  ⟨2, .N .mv, [.l 0], none, 3⟩,
  ⟨3, .N .mv, [.n 2], some (.l 0, true), 7⟩,
  ⟨4, .N .mv, [.n 4], some (.l 1, true), 7⟩,
  ⟨5, .N (.bin .sub), [.l 0, .c (.int .i64 1)], some (.l 2, true), 23⟩,
  ⟨6, .N (.idx 1), [.l 2, .l 0], some (.l 3, true), 63⟩,
  ⟨7, .N .load1, [.l 0], some (.l 4, true), 127⟩,
  ⟨8, .N .mv, [.n 0], some (.l 5, true), 7⟩,
  ⟨9, .N .mv, [.n 3], some (.l 6, true), 7⟩,
  ⟨10, .N (.idx 1), [.l 1, .l 0], some (.l 7, true), 775⟩,
  ⟨11, .N .load1, [.l 0], some (.l 8, true), 1799⟩,
  ⟨12, .N (.bin .gtr), [.l 4, .l 0], some (.l 9, true), 4095⟩,
  ⟨13, .N .pick, [.l 10, .l 0, .c (.bool false)], none, 8191⟩] := Eq.trans rfl rfl
theorem er30_6 (φ : Nat → Nat) : r30_6 φ = [
  ⟨0, .N .mv, [.n 4], none, 0⟩,
  ⟨1, .N (.bin .sub), [.l 0, .c (.int .i64 1)], none, 0⟩,
  ⟨2, .N .mv, [.l 0], none, 0⟩] := Eq.trans rfl rfl
theorem er30_8 (φ : Nat → Nat) : r30_8 φ = [
  ⟨0, .N .mv, [.n 2], none, 0⟩,
  ⟨1, .N (.bsl [.int .i64 0] 1 1 [(0, 1)]), [.c (.int .i64 0)], none, 0⟩,
  ⟨2, .X (.app 1 8), [.l 1, .l 0], none, 0⟩,
  ⟨3, .N .mv, [.l 0], none, 0⟩] := Eq.trans rfl rfl
theorem er30_9 (φ : Nat → Nat) : r30_9 φ = [
  ⟨0, .N .mv, [.n 2], none, 0⟩,
  ⟨1, .N .mv, [.n 4], none, 0⟩,
  ⟨2, .N (.bin .add), [.l 0, .c (.int .i64 1)], none, 2⟩,
  ⟨3, .N (.slc 1 true false false), [.l 2, .l 0], none, 7⟩,
  ⟨4, .N .mv, [.n 2], none, 0⟩,
  ⟨5, .N .mv, [.n 4], none, 0⟩,
  ⟨6, .N (.slc 1 true false false), [.l 1, .l 0], none, 48⟩,
  ⟨7, .X (.copy 1), [.l 3, .l 0], none, 127⟩] := Eq.trans rfl rfl
theorem er30_10 (φ : Nat → Nat) : r30_10 φ = [
  ⟨0, .N .mv, [.n 2], none, 0⟩,
  ⟨1, .N .mv, [.n 4], none, 0⟩,
  ⟨2, .N .mv, [.n 0], none, 0⟩,
  ⟨3, .N .mv, [.n 3], none, 0⟩,
  ⟨4, .N (.idx 1), [.l 1, .l 0], none, 0⟩,
  ⟨5, .N .load1, [.l 0], none, 0⟩,
  ⟨6, .N (.idx 1), [.l 5, .l 4], none, 0⟩,
  ⟨7, .X (.store 1), [.l 0, .l 1], none, 0⟩] := Eq.trans rfl rfl
theorem er30_11 (φ : Nat → Nat) : r30_11 φ = [
  ⟨0, .N .mv, [.n 3], none, 0⟩,
  ⟨1, .N (.bin .add), [.l 0, .c (.int .i64 1)], none, 0⟩,
  ⟨2, .N .mv, [.l 0], none, 0⟩] := Eq.trans rfl rfl
theorem er30_13 (φ : Nat → Nat) : r30_13 φ = [
  ⟨0, .N .mv, [.n 2], none, 0⟩,
  ⟨1, .N .mv, [.l 0], none, 0⟩] := Eq.trans rfl rfl
theorem w_Same (h : Has A (φ 11) (f11 φ)) (v u : AV) (xs ys : List Int) (hv : IsI v xs) (hu : IsI u ys) (hn : xs.length < 1000000000000) : PVal A (φ 11) [v, u] (.bool (decide (xs = ys))) := by
  have l1 := hv.len; have l2 := hu.len
  refine pval_has h rfl ?_
  simp only [l11_8, b11, f11]
  by_cases hl : xs.length = ys.length
  · have hl' : (xs.length : Int) = ys.length := by omega
    simp [-List.getD_eq_getElem?_getD, -Int.ofNat_toNat, -getElem?_pos, er11_0, er11_1, er11_2, er11_3, er11_4, er11_5, er11_6, er11_7, er11_9, l1, l2, hl]
    refine pc_loopI (fun m st => ∃ (i : Nat) (q r : AV), i + m = xs.length ∧ xs.take i = ys.take i ∧ st = ([v, u, .bool false, .int .i64 i, .bool false, q, r], [])) xs.length ⟨0, _, _, by simp, by simp, rfl⟩ ?_
    rintro m st ⟨i, q, r, hi, hp, rfl⟩
    by_cases hlt : i < xs.length
    · obtain ⟨i1, g1⟩ := hv.at hlt
      obtain ⟨i2, g2⟩ := hu.at (i := i) (by omega)
      have hw := wrap1 hlt (by omega)
      have hlt' : (i : Int) < xs.length := by omega
      by_cases hx : xs[i] = ys[i]
      · simp [-List.getD_eq_getElem?_getD, -Int.ofNat_toNat, -getElem?_pos, er11_0, er11_1, er11_2, er11_3, er11_4, er11_5, er11_6, er11_7, er11_9, l1, hlt, i1, i2, g1, g2, hx, hw]
        refine next_mk (m - 1) (by omega) ⟨i + 1, _, _, by omega, ?_, rfl⟩
        rw [List.take_succ_eq_append_getElem hlt, List.take_succ_eq_append_getElem (by omega : i < ys.length), hp, hx]
      · have hr : ¬ xs = ys := fun h => hx (by simp [h])
        simp [-List.getD_eq_getElem?_getD, -Int.ofNat_toNat, -getElem?_pos, er11_0, er11_1, er11_2, er11_3, er11_4, er11_5, er11_6, er11_7, er11_9, l1, hlt, i1, i2, g1, g2, hx, hr]
    · have hm : i = xs.length := by omega
      have hr : xs = ys := by rw [hm, List.take_length] at hp; rw [hl, List.take_length] at hp; exact hp
      simp [-List.getD_eq_getElem?_getD, -Int.ofNat_toNat, -getElem?_pos, er11_0, er11_1, er11_2, er11_3, er11_4, er11_5, er11_6, er11_7, er11_9, l1, hlt, ← hr]
  · have hl' : ¬ (xs.length : Int) = ys.length := by omega
    have hr : ¬ xs = ys := fun h => hl (by rw [h])
    simp [-List.getD_eq_getElem?_getD, -Int.ofNat_toNat, -getElem?_pos, er11_0, er11_1, er11_2, er11_3, er11_4, er11_5, er11_6, er11_7, er11_9, l1, l2, hl', hr]
theorem w_In (h : Has A (φ 25) (f25 φ)) (v : AV) (xs : List Int) (x : Int) (hv : IsI v xs) (hn : xs.length < 1000000000000) : PVal A (φ 25) [v, .int .i64 x] (.bool (decide (x ∈ xs))) := by
  have l1 := hv.len
  refine pval_has h rfl ?_
  simp only [l25_6, b25, f25]
  simp [-List.getD_eq_getElem?_getD, -Int.ofNat_toNat, -getElem?_pos, er25_0, er25_1, er25_2, er25_3, er25_4, er25_5, er25_7]
  refine pc_loopI (fun m st => ∃ (i : Nat) (q r : AV), i + m = xs.length ∧ (∀ j (h : j < xs.length), j < i → ¬ xs[j] = x) ∧ st = ([v, .int .i64 x, .bool false, .int .i64 i, q, r], [])) xs.length ⟨0, _, _, by simp, by simp, rfl⟩ ?_
  rintro m st ⟨i, q, r, hi, hp, rfl⟩
  by_cases hlt : i < xs.length
  · obtain ⟨i1, g1⟩ := hv.at hlt
    have hw := wrap1 hlt (by omega)
    by_cases hx : xs[i] = x
    · have hr : x ∈ xs := by rw [← hx]; exact List.getElem_mem hlt
      simp [-List.getD_eq_getElem?_getD, -Int.ofNat_toNat, -getElem?_pos, er25_0, er25_1, er25_2, er25_3, er25_4, er25_5, er25_7, l1, hlt, i1, g1, hx, hr]
    · simp [-List.getD_eq_getElem?_getD, -Int.ofNat_toNat, -getElem?_pos, er25_0, er25_1, er25_2, er25_3, er25_4, er25_5, er25_7, l1, hlt, i1, g1, hx, hw]
      refine next_mk (m - 1) (by omega) ⟨i + 1, _, _, by omega, fun j h hj => ?_, rfl⟩
      by_cases e : j = i
      · subst e; exact hx
      · exact hp j h (by omega)
  · have hr : ¬ x ∈ xs := by
      intro hm
      obtain ⟨j, hj, e⟩ := List.getElem_of_mem hm
      exact hp j hj (by omega) e
    simp [-List.getD_eq_getElem?_getD, -Int.ofNat_toNat, -getElem?_pos, er25_0, er25_1, er25_2, er25_3, er25_4, er25_5, er25_7, l1, hlt, hr]
/-! ### Sorted -/
def sortI (xs : List Int) : List Int := xs.mergeSort fun a b => decide (a ≤ b)
theorem sortI_perm (xs : List Int) : (sortI xs).Perm xs := List.mergeSort_perm _ _
theorem sortI_sorted (xs : List Int) : (sortI xs).Pairwise (· ≤ ·) := by
  have := List.pairwise_mergeSort (le := fun a b : Int => decide (a ≤ b)) (fun a b c h1 h2 => by simp at *; omega) (fun a b => by simp; omega) xs
  exact this.imp (fun h => by simpa using h)
theorem sortI_len (xs : List Int) : (sortI xs).length = xs.length := (sortI_perm xs).length_eq
theorem sortI_unique : ∀ {l m : List Int}, l.Pairwise (· ≤ ·) → m.Pairwise (· ≤ ·) → l.Perm m → l = m
  | [], m, _, _, hp => hp.nil_eq
  | x :: l, [], _, _, hp => by have := hp.length_eq; simp at this
  | x :: l, y :: m, hl, hm, hp => by
    have e : x = y := by
      have h1 : x ∈ y :: m := hp.mem_iff.1 (List.mem_cons_self ..)
      have h2 : y ∈ x :: l := hp.mem_iff.2 (List.mem_cons_self ..)
      rcases List.mem_cons.1 h1 with h1 | h1
      · exact h1
      · rcases List.mem_cons.1 h2 with h2 | h2
        · exact h2.symm
        · have a := List.rel_of_pairwise_cons hl h2
          have b := List.rel_of_pairwise_cons hm h1
          omega
    subst e
    rw [sortI_unique (List.Pairwise.of_cons hl) (List.Pairwise.of_cons hm) (List.Perm.cons_inv hp)]
theorem sortI_of {l m : List Int} (h : m.Pairwise (· ≤ ·)) (hp : m.Perm l) : sortI l = m := sortI_unique (sortI_sorted l) h ((sortI_perm l).trans hp.symm)
theorem sortI_nil : sortI [] = [] := by simp [sortI]
/-- One more number, set in at its place. -/
theorem sortI_ins {l : List Int} {x : Int} {p : Nat} (hp : p ≤ (sortI l).length) (h1 : ∀ j (h : j < (sortI l).length), p ≤ j → x < (sortI l)[j]) (h2 : p = 0 ∨ ∀ h : p - 1 < (sortI l).length, (sortI l)[p - 1] ≤ x) :
    sortI (l ++ [x]) = (sortI l).take p ++ x :: (sortI l).drop p := by
  have hs := sortI_sorted l
  have hm := sortI_perm l
  generalize sortI l = o at *
  refine sortI_of ?_ ?_
  · rw [List.pairwise_append]
    refine ⟨hs.sublist (List.take_sublist _ _), ?_, ?_⟩
    · refine List.Pairwise.cons (fun y hy => ?_) (hs.sublist (List.drop_sublist _ _))
      obtain ⟨j, hj, rfl⟩ := List.getElem_of_mem hy
      rw [List.getElem_drop]
      have := h1 (p + j) (by simp at hj; omega) (by omega)
      omega
    · intro a ha b hb
      obtain ⟨j, hj, rfl⟩ := List.getElem_of_mem ha
      simp at hj
      rw [List.getElem_take]
      have hle : o[j] ≤ x := by
        rcases h2 with h | h
        · omega
        · have h3 := h (by omega)
          by_cases e : j = p - 1
          · subst e; exact h3
          · have := List.pairwise_iff_getElem.1 hs j (p - 1) (by omega) (by omega) (by omega)
            omega
      rcases List.mem_cons.1 hb with rfl | hb
      · exact hle
      · obtain ⟨k, hk, rfl⟩ := List.getElem_of_mem hb
        rw [List.getElem_drop]
        have := h1 (p + k) (by simp at hk; omega) (by omega)
        omega
  · have : (o.take p ++ x :: o.drop p).Perm (x :: (o.take p ++ o.drop p)) := List.perm_middle
    rw [List.take_append_drop] at this
    exact this.trans ((hm.cons x).trans (List.perm_append_singleton x l).symm)
theorem ins_cells (o : List Int) (x : Int) (p : Nat) (hp : p ≤ o.length) :
    setAt (setAt (cI o ++ [AV.int .i64 0]) (p + 1) (((cI o ++ [AV.int .i64 0]).drop p).take (o.length - p))) p [AV.int .i64 x] = cI (o.take p ++ x :: o.drop p) := by
  have hl : (cI o ++ [AV.int .i64 0]).length = o.length + 1 := by simp [cI]
  have hl3 : (cI o).length = o.length := cI_len o
  have hl2 : (((cI o ++ [AV.int .i64 0]).drop p).take (o.length - p)).length = o.length - p := by simp [cI]; omega
  apply List.ext_getElem?
  intro i
  rw [setAt_get (by rw [setAt_len (by omega)]; simp; omega), setAt_get (by omega), hl2]
  simp only [cI, List.map_append, List.map_cons, List.map_take, List.map_drop, List.length_singleton]
  have hml : ∀ k, (List.take k (o.map (AV.int .i64 ·))).length = min k o.length := by simp
  have e0 : min p o.length = p := Nat.min_eq_left hp
  have hm2 : (o.map (AV.int .i64 ·)).length = o.length := by simp
  by_cases h1 : i = p
  · subst h1
    rw [if_pos (by omega)]
    rw [List.getElem?_append_right (by rw [hml]; omega), hml, e0]
    simp
  · rw [if_neg (by omega)]
    by_cases h2 : i < p
    · rw [if_neg (by omega), List.getElem?_append_left (by rw [hm2]; omega), List.getElem?_append_left (by rw [hml]; omega), List.getElem?_take, if_pos h2]
    · rw [List.getElem?_append_right (l₁ := List.take p _) (by rw [hml]; omega), hml, e0]
      have e : i - p = (i - p - 1) + 1 := by omega
      rw [e, List.getElem?_cons_succ, List.getElem?_drop]
      by_cases h3 : i < o.length + 1
      · rw [if_pos (by omega), List.getElem?_take, if_pos (by omega), List.getElem?_drop, List.getElem?_append_left (by rw [hm2]; omega)]
        congr 1
      · rw [if_neg (by omega), List.getElem?_eq_none (by simp; omega), List.getElem?_eq_none (by rw [hm2]; omega)]
theorem x_copy_own {H : Heap} {b g p n : Nat} {ex ex2 : Bool} {cl1 cl2 : Nat} {c : List AV} (hb : H[b]? = some (.cells g false c)) (hl : c.length = n + 1) (hp : p ≤ n) (hone : c.all (·.one) = true) :
    ∃ r, xstep (.copy 1) [.sl b g (p + 1) (n - p) 1 cl1 ex, .sl b g p (n + 1 - p) 1 cl2 ex2] H = some (r, H.set b (.cells g false (setAt c (p + 1) ((c.drop p).take (n - p))))) := by
  have e1 : ¬ n + 1 - p = 0 := by omega
  have hset : H.set b (.cells g false c) = H := by
    obtain ⟨h1, h2⟩ := List.getElem?_eq_some_iff.1 hb
    rw [← h2]; exact List.set_getElem_self h1
  have e3 : p + (n + 1 - p) ≤ n + 1 := by omega
  have e4 : min (n + 1 - p) (n - p) = n - p := by omega
  by_cases h0 : n - p = 0
  · refine ⟨.int .i64 0, ?_⟩
    simp [xstep, srcCells, e1, rdSl, hb, hl, e3, e4, h0, setAt, hset]
  · refine ⟨.int .i64 ((n - p : Nat) : Int), ?_⟩
    have e6 : ∀ x, x ∈ (c.drop p).take (n + 1 - p) → x.one = true := fun x hx => List.all_eq_true.1 hone x (List.mem_of_mem_drop (List.mem_of_mem_take hx))
    have e7 : min (n - p) (n + 1 - p) = n - p := by omega
    simp [xstep, srcCells, e1, rdSl, hb, hl, e3, e4, h0, List.take_take, e7]
    exact ⟨by omega, e6⟩
set_option maxHeartbeats 1000000 in
theorem w_Sorted (h : Has A (φ 30) (f30 φ)) (v : AV) (xs : List Int) (hv : IsI v xs) (hn : xs.length < 1000000000000) : PVal A (φ 30) [v] (vI (sortI xs)) := by
  have l1 := hv.len
  refine pval_has h rfl ?_
  simp only [l30_7, l30_12, b30, f30]
  simp [-List.getD_eq_getElem?_getD, -Int.ofNat_toNat, -getElem?_pos, er30_0, er30_1, er30_2, er30_3, er30_4, er30_5, er30_6, er30_8, er30_9, er30_10, er30_11, er30_13]
  refine pc_loopI (fun m st => ∃ (i : Nat) (o p q r : AV) (H : Heap), i + m = xs.length ∧ OwnI false 0 H o (sortI (xs.take i)) ∧ st = ([v, .nils, o, .int .i64 i, p, q, r], H)) xs.length ⟨0, _, _, _, _, _, by simp, by rw [List.take_zero, sortI_nil]; exact own_empty 0 _ 1 0 0 0, rfl⟩ ?_
  rintro m st ⟨i, o, p, q, r, H, hi, ho, rfl⟩
  have hol := ho.len
  have hsl : (sortI (xs.take i)).length = i := by rw [sortI_len]; simp; omega
  by_cases hlt : i < xs.length
  · obtain ⟨i1, g1⟩ := hv.at hlt
    have hw := wrap1 hlt (by omega)
    simp [-List.getD_eq_getElem?_getD, -Int.ofNat_toNat, -getElem?_pos, er30_0, er30_1, er30_2, er30_3, er30_4, er30_5, er30_6, er30_8, er30_9, er30_10, er30_11, er30_13, l1, hlt, hol]
    refine pc_loopI (fun m st => ∃ (j : Nat) (r : AV), j = m ∧ j ≤ i ∧ (∀ k (h : k < (sortI (xs.take i)).length), j ≤ k → xs[i] < (sortI (xs.take i))[k]) ∧ st = ([v, .nils, o, .int .i64 i, .int .i64 j, .bool true, r], H)) i ⟨i, _, rfl, by omega, fun k h hk => by omega, by simp [hsl]; rfl⟩ ?_
    rintro m st ⟨j, r, rfl, hji, hgt, rfl⟩
    generalize hx : xs[i] = x at *
    have htk : xs.take (i + 1) = xs.take i ++ [x] := by rw [List.take_succ_eq_append_getElem hlt, hx]
    have hwj := wrap1 (i := j) (n := i + 1) (by omega) (by omega)
    by_cases hj : j = 0
    · have hj0 : ¬ 0 < j := by omega
      have hor : j = 0 ∨ ∀ h : j - 1 < (sortI (xs.take i)).length, (sortI (xs.take i))[j - 1] ≤ x := .inl hj
      simp [-List.getD_eq_getElem?_getD, -Int.ofNat_toNat, -getElem?_pos, er30_0, er30_1, er30_2, er30_3, er30_4, er30_5, er30_6, er30_13, hj0]
      obtain ⟨o', H1, x1, x2, x3, x4, x5, x6⟩ := ho.app1 0 (by simp) (by omega)
      rcases x2 with ⟨h0, _⟩ | ⟨h0, b, g, ex, rfl, hP, hl, hb⟩
      · simp at h0
      have hlt1 := lt_of_get hb
      rw [cI_append] at hb
      simp only [cI_cons, cI_nil] at hb
      have hl2 : (cI (sortI (xs.take i)) ++ [AV.int .i64 0]).length = i + 1 := by simp [cI_len, hsl]
      obtain ⟨r, hcp⟩ := x_copy_own (p := j) (n := i) (ex := ex) (ex2 := ex) (cl1 := i - j) (cl2 := i + 1 - j) hb hl2 hji (by rw [List.all_append, ones_cI]; rfl)
      have hic := ins_cells (sortI (xs.take i)) x j (by omega)
      rw [hsl] at hic
      have hcl : (setAt (cI (sortI (xs.take i)) ++ [AV.int .i64 0]) (j + 1) (((cI (sortI (xs.take i)) ++ [AV.int .i64 0]).drop j).take (i - j))).length = i + 1 := by
        rw [setAt_len (by simp [cI_len, hsl]; omega)]; simp [cI_len, hsl]
      have hset : ∀ z, (H1.set b z)[b]? = some z := fun z => List.getElem?_set_self hlt1
      have b1 : (0 : Int) ≤ (j : Int) + 1 := by omega
      have b2 : (j : Int) ≤ (i : Int) + 1 := by omega
      have b3 : j < i + 1 := by omega
      have htk2 : sortI (xs.take (i + 1)) = (sortI (xs.take i)).take j ++ x :: (sortI (xs.take i)).drop j := by
        rw [htk]; exact sortI_ins (by omega) hgt hor
      have hsl2 : (sortI (xs.take (i + 1))).length = i + 1 := by rw [sortI_len]; simp; omega
      simp [-List.getD_eq_getElem?_getD, -Int.ofNat_toNat, -getElem?_pos, er30_0, er30_1, er30_2, er30_3, er30_4, er30_5, er30_6, er30_8, er30_9, er30_10, er30_11, er30_13, x1, hsl, hwj, bounds3, intArg, hji, b1, b2, b3, hcp, i1, g1, hset, hcl, hic, hw]
      refine ⟨by omega, ?_⟩
      exact next_mk (m - 1) (by omega) ⟨i + 1, _, _, _, _, _, by omega, .inr ⟨by omega, b, g, ex, by rw [hsl2], hP, by rw [cI_len]; omega, by rw [htk2]; exact hset _⟩, rfl⟩
    have hj0 : 0 < j := by omega
    have hjl : j - 1 < (sortI (xs.take i)).length := by omega
    have hwm : IntKind.i64.wrap ((j : Int) - 1) = ((j - 1 : Nat) : Int) := by rw [wrap_in (by omega) (by omega)]; omega
    obtain ⟨b0, g0, oi, oc, _, _, _⟩ := Own.at ho hjl
    have oc2 := cI_get hjl
    by_cases hlx : x < (sortI (xs.take i))[j - 1]
    · simp [-List.getD_eq_getElem?_getD, -Int.ofNat_toNat, -getElem?_pos, er30_0, er30_1, er30_2, er30_3, er30_4, er30_5, er30_6, er30_13, hj0, hwm, oi, oc, oc2, i1, g1, hlx]
      refine next_mk (j - 1) (by omega) ⟨j - 1, _, rfl, by omega, fun k hk hle => ?_, rfl⟩
      by_cases e : k = j - 1
      · subst e; exact hlx
      · exact hgt k hk (by omega)
    · have hor : j = 0 ∨ ∀ h : j - 1 < (sortI (xs.take i)).length, (sortI (xs.take i))[j - 1] ≤ x := .inr fun _ => by omega
      simp [-List.getD_eq_getElem?_getD, -Int.ofNat_toNat, -getElem?_pos, er30_0, er30_1, er30_2, er30_3, er30_4, er30_5, er30_6, er30_13, hj0, hwm, oi, oc, oc2, i1, g1, hlx]
      clear oi oc oc2
      obtain ⟨o', H1, x1, x2, x3, x4, x5, x6⟩ := ho.app1 0 (by simp) (by omega)
      rcases x2 with ⟨h0, _⟩ | ⟨h0, b, g, ex, rfl, hP, hl, hb⟩
      · simp at h0
      have hlt1 := lt_of_get hb
      rw [cI_append] at hb
      simp only [cI_cons, cI_nil] at hb
      have hl2 : (cI (sortI (xs.take i)) ++ [AV.int .i64 0]).length = i + 1 := by simp [cI_len, hsl]
      obtain ⟨r, hcp⟩ := x_copy_own (p := j) (n := i) (ex := ex) (ex2 := ex) (cl1 := i - j) (cl2 := i + 1 - j) hb hl2 hji (by rw [List.all_append, ones_cI]; rfl)
      have hic := ins_cells (sortI (xs.take i)) x j (by omega)
      rw [hsl] at hic
      have hcl : (setAt (cI (sortI (xs.take i)) ++ [AV.int .i64 0]) (j + 1) (((cI (sortI (xs.take i)) ++ [AV.int .i64 0]).drop j).take (i - j))).length = i + 1 := by
        rw [setAt_len (by simp [cI_len, hsl]; omega)]; simp [cI_len, hsl]
      have hset : ∀ z, (H1.set b z)[b]? = some z := fun z => List.getElem?_set_self hlt1
      have b1 : (0 : Int) ≤ (j : Int) + 1 := by omega
      have b2 : (j : Int) ≤ (i : Int) + 1 := by omega
      have b3 : j < i + 1 := by omega
      have htk2 : sortI (xs.take (i + 1)) = (sortI (xs.take i)).take j ++ x :: (sortI (xs.take i)).drop j := by
        rw [htk]; exact sortI_ins (by omega) hgt hor
      have hsl2 : (sortI (xs.take (i + 1))).length = i + 1 := by rw [sortI_len]; simp; omega
      simp [-List.getD_eq_getElem?_getD, -Int.ofNat_toNat, -getElem?_pos, er30_0, er30_1, er30_2, er30_3, er30_4, er30_5, er30_6, er30_8, er30_9, er30_10, er30_11, er30_13, x1, hsl, hwj, bounds3, intArg, hji, b1, b2, b3, hcp, i1, g1, hset, hcl, hic, hw]
      refine ⟨by omega, ?_⟩
      exact next_mk (m - 1) (by omega) ⟨i + 1, _, _, _, _, _, by omega, .inr ⟨by omega, b, g, ex, by rw [hsl2], hP, by rw [cI_len]; omega, by rw [htk2]; exact hset _⟩, rfl⟩
  · have hm : xs.take i = xs := List.take_of_length_le (by omega)
    rw [hm] at ho
    simp [-List.getD_eq_getElem?_getD, -Int.ofNat_toNat, -getElem?_pos, er30_0, er30_1, er30_2, er30_3, er30_4, er30_5, er30_6, er30_8, er30_9, er30_10, er30_11, er30_13, l1, hlt, ho.view, rv_false]
end Go.Ai.G
/- Functions of the program (package carcanetlaw03) as code of the abstract machine: written by a program of this session out of the elaborated operations. -/
namespace Go.Ai.G
set_option maxRecDepth 100000
set_option linter.unusedVariables false
/-! 0: carcanet/carcanetlaw03.shown: 0: 1:g 2:e 3:f 4:h 5:k 6:w 7:m 8:d -/
/-! 5: carcanet/carcanetlaw03.GraphNormal: 0:n 1:l 2: 3:head 4:g 5:e 6:h 7:f -/
/-! 14: carcanet/carcanetlaw03.GraphRight: 0:g 1:a 2:b 3:g 4: 5:head -/
/-! 19: carcanet/carcanetlaw03.GraphAdds: 0:g 1:a 2:b 3:g 4: 5:head 6:x 7:e 8:y 9:f 10:v 11:d 12:w 13:c -/
/-! 20: carcanet/carcanetlaw03.GraphSet: 0:n 1:l 2: 3:head 4:told 5:i 6:g 7:e 8:pairs 9:i 10:a 11:b 12: 13: 14: 15: 16: 17: 18: -/
/-! 21: carcanet/carcanetlaw03.GraphTurned: 0:n 1:l 2: 3:head 4:one 5:two 6:i 7:x 8:g 9:e 10:h 11:f 12:again 13:k 14: -/
/-! 24: carcanet/carcanetlaw03.GraphBack: 0:n 1:l 2:ends 3:ends 4: 5:head 6:g 7:a 8:b 9:was 10:had 11:x 12:e 13:y 14:f 15:again 16: 17: 18: -/
/-! 26: carcanet/carcanetlaw03.GraphSum: 0:n 1:l 2: 3:head 4:g 5:d 6:sum 7:v 8:near 9:i 10: 11: 12: 13: 14: -/
end Go.Ai.G
/- Functions of the program (package sub) as code of the abstract machine: written by a program of this session out of the elaborated operations. -/
namespace Go.Ai.G
set_option maxRecDepth 100000
set_option linter.unusedVariables false
/-! 40: carcanet/sub.Induced: 0:g 1:l 2:g 3: 4: 5:place 6:twice 7:i 8:v 9: 10: 11: 12: 13: 14: 15: -/
/-! 43: carcanet/sub.Delete: 0:g 1:v 2:g 3:v 4: 5: 6: 7: -/
/-! 45: carcanet/sub.Contract: 0:g 1:a 2:b 3:g 4: 5: 6:lo 7:hi 8: 9: 10: -/
/-! 53: carcanet/sub.Induced$1: 0:v 1: 2: -/
/-! 54: (carcanet/sub.names).renamed: 0:n 1:g 2:n 3:g 4: 5: 6:l 7:x 8:a 9:b 10: 11: 12: 13: 14: -/
/-! 56: carcanet/sub.Delete$1: 0:x 1: 2: 3: 4: -/
/-! 58: carcanet/sub.Contract$1: 0:x 1: 2: 3: 4: 5: -/
end Go.Ai.G
/- Functions of the program (package carcanetref05) as code of the abstract machine: written by a program of this session out of the elaborated operations. -/
namespace Go.Ai.G
set_option maxRecDepth 100000
set_option linter.unusedVariables false
/-! 55: carcanet/carcanetref05.Unlike: 0:l 1: 2:i 3:k 4: 5: 6: -/
end Go.Ai.G
/- Functions of the program (package carcanetref06) as code of the abstract machine: written by a program of this session out of the elaborated operations. -/
namespace Go.Ai.G
set_option maxRecDepth 100000
set_option linter.unusedVariables false
/-! 41: carcanet/carcanetref06.Induced: 0:g 1:l 2:g 3: 4: 5:i 6:out 7:a 8:b 9: 10: 11: 12: 13: 14: 15: -/
/-! 44: carcanet/carcanetref06.Delete: 0:g 1:v 2:g 3: 4: 5: 6: -/
/-! 46: carcanet/carcanetref06.Contract: 0:g 1:a 2:b 3:g 4: 5: 6:lo 7:hi 8:all 9:near 10:i 11:h 12:x 13:y 14:i 15: 16: 17: 18: 19: 20: 21: 22: 23: -/
/-! 57: carcanet/carcanetref06.Others: 0:n 1:v 2: 3:out 4:i 5: 6: -/
end Go.Ai.G
/- Functions of the program (package carcanetlaw06) as code of the abstract machine: written by a program of this session out of the elaborated operations. -/
namespace Go.Ai.G
set_option maxRecDepth 100000
set_option linter.unusedVariables false
/-! 38: carcanet/carcanetlaw06.shown: 0: 1:g 2:d 3:a 4:c 5:b 6:i 7:e 8:f -/
/-! 42: carcanet/carcanetlaw06.SubInduced: 0:x 1:l 2:x 3: 4:head 5:g 6:h 7:e 8:k 9:f -/
/-! 47: carcanet/carcanetlaw06.SubTells: 0:x 1:a 2:b 3:x 4: 5:head 6:g 7:h 8:e 9:k 10:f 11:m 12:c 13:n 14:d -/
/-! 48: carcanet/carcanetlaw06.SubWrong: 0:g 1:a 2:b 3:g 4: 5:head 6:may 7:h 8:e 9:i 10:f 11:j 12:c 13: -/
/-! 49: carcanet/carcanetlaw06.SubOrder: 0:x 1:by 2:x 3: 4:head 5:g 6:l 7:v 8:at 9:back 10:i 11:h 12:e 13:a 14:b 15:k 16:f 17: 18: 19: 20: 21: 22: 23: -/
/-! 50: carcanet/carcanetlaw06.SubLeaves: 0:x 1:a 2:b 3:x 4: 5:head 6:g 7:lo 8:hi 9:l 10:v 11:one 12:e 13:two 14:f 15:three 16:c 17:four 18:d 19:h 20:k 21: 22: 23: -/
/-! 51: carcanet/carcanetlaw06.SubTriangle: 0:x 1:ends 2:x 3:ends 4: 5:head 6:g 7:l 8:h 9:e 10:a 11:b 12:a2 13:c 14:d 15:f 16:d2 17:k 18:m 19:n 20:m2 21:o 22: 23: -/
/-! 52: carcanet/carcanetlaw06.SubCounts: 0:x 1:which 2:x 3: 4:head 5:g 6:y 7:near 8:both 9:i 10:c 11:e 12:d 13:f 14: 15: 16: -/
end Go.Ai.G
/- Rows of rows that lie in the memory, seen as values. -/
namespace Go.Ai
set_option linter.unusedVariables false
set_option linter.unusedSimpArgs false
theorem frz_ro : ∀ (bs : List Nat) {H : Heap} {b g : Nat} {c : List AV}, H[b]? = some (.cells g true c) → (frzH bs H)[b]? = some (.cells g true c)
  | [], H, b, g, c, h => h
  | d :: bs, H, b, g, c, h => by
    simp only [frzH]
    refine frz_ro bs ?_
    split
    · rename_i g' c' hd
      rw [List.getElem?_set_ne (fun e => by subst e; rw [h] at hd; cases hd)]; exact h
    · exact h
theorem frz_in : ∀ (bs : List Nat) {H : Heap} {b g : Nat} {ro : Bool} {c : List AV}, H[b]? = some (.cells g ro c) → b ∈ bs → (frzH bs H)[b]? = some (.cells g true c)
  | [], H, b, g, ro, c, h, hm => by simp at hm
  | d :: bs, H, b, g, ro, c, h, hm => by
    simp only [frzH]
    by_cases e : d = b
    · subst e
      refine frz_ro bs ?_
      cases ro
      · rw [h]; exact List.getElem?_set_self (lt_of_get h)
      · rw [h]; exact h
    · have hm' : b ∈ bs := by
        rcases List.mem_cons.1 hm with h | h
        · exact absurd h.symm e
        · exact h
      refine frz_in bs (ro := ro) ?_ hm'
      split
      · rw [List.getElem?_set_ne e]; exact h
      · exact h
theorem frz_out : ∀ (bs : List Nat) {H : Heap} {b : Nat}, b ∉ bs → (frzH bs H)[b]? = H[b]?
  | [], H, b, _ => rfl
  | d :: bs, H, b, hm => by
    simp only [List.mem_cons, not_or] at hm
    simp only [frzH]
    rw [frz_out bs hm.2]
    split
    · exact List.getElem?_set_ne (fun e => hm.1 e.symm)
    · rfl
/-- The value comes to r, once what it reaches is frozen; it reaches these objects. -/
def Sees (H : Heap) (v r : AV) (bs : List Nat) : Prop := reachV H 11 v = bs ∧ ∀ cs, (∀ b ∈ bs, b ∈ cs) → viewV (frzH cs H) 11 v = some r
theorem sees_closed {H : Heap} {v : AV} (h : v.closed = true) : Sees H v v [] := ⟨reachV_closed _ h, fun cs _ => viewV_closed _ h⟩
theorem Vw.sees {nl : Bool} {H : Heap} {v : AV} {sz n : Nat} {c : List AV} (h : Vw nl H v sz n c) (hc : AV.closeds c = true) (k : Nat) : reachV H (k + 1) v = (blkOf v).toList ∧ ∀ cs, (∀ b, blkOf v = some b → b ∈ cs) → viewV (frzH cs H) (k + 2) v = some (rv nl n sz c) := by
  refine ⟨h.reach hc k, fun cs hm => ?_⟩
  rcases h with ⟨rfl, rfl, h⟩ | ⟨h0, b, g, cl, ex, ro, rfl, h1, h2⟩
  · cases nl
    · obtain ⟨b, g, o, rfl⟩ := h
      rw [viewV_sl0]; simp [rv]
    · have : v = .nils := h
      subst this
      rw [viewV_closed _ rfl]; simp [rv]
  · have hb := frz_in cs h2 (hm b (by simp only [blkOf]; rw [if_neg (by omega)]))
    rw [viewV_sl (c := c) _ _ _ _ _ _ _ _ hb (by omega) (by omega) hc]
    simp [rv, show ¬ n = 0 by omega, ← h1]
theorem Vw.sees1 {nl : Bool} {H : Heap} {v : AV} {sz n : Nat} {c : List AV} (h : Vw nl H v sz n c) (hc : AV.closeds c = true) : Sees H v (rv nl n sz c) (blkOf v).toList :=
  ⟨(h.sees hc 10).1, fun cs hm => (h.sees hc 9).2 cs fun b hb => hm b (by rw [hb]; simp)⟩
/-- Cells that are rows. -/
def Rws (H : Heap) (rs : List AV) (xs : List (List Int)) : Prop := rs.length = xs.length ∧ ∀ (j : Nat) r x, rs[j]? = some r → xs[j]? = some x → Vw false H r 1 x.length (cI x)
theorem rws_nil (H : Heap) : Rws H [] [] := ⟨rfl, fun j r x h => by simp at h⟩
theorem Rws.tail {H : Heap} {r : AV} {rs : List AV} {x : List Int} {xs : List (List Int)} (h : Rws H (r :: rs) (x :: xs)) : Vw false H r 1 x.length (cI x) ∧ Rws H rs xs :=
  ⟨h.2 0 r x rfl rfl, by have := h.1; simpa using this, fun j r' x' h1 h2 => h.2 (j + 1) r' x' h1 h2⟩
theorem Rws.keep {H H' : Heap} {rs : List AV} {xs : List (List Int)} (h : Rws H rs xs) (hk : ∀ r ∈ rs, ∀ b, blkOf r = some b → H'[b]? = H[b]?) : Rws H' rs xs :=
  ⟨h.1, fun j r x h1 h2 => (h.2 j r x h1 h2).keep fun b hb => hk r (List.mem_of_getElem? h1) b hb⟩
theorem Rws.snoc {H : Heap} {rs : List AV} {xs : List (List Int)} (h : Rws H rs xs) {r : AV} {x : List Int} (hr : Vw false H r 1 x.length (cI x)) : Rws H (rs ++ [r]) (xs ++ [x]) := by
  refine ⟨by simp [h.1], fun j r' x' h1 h2 => ?_⟩
  by_cases hj : j < rs.length
  · rw [List.getElem?_append_left hj] at h1
    rw [List.getElem?_append_left (by rw [← h.1]; exact hj)] at h2
    exact h.2 j r' x' h1 h2
  · rw [List.getElem?_append_right (by omega)] at h1
    rw [List.getElem?_append_right (by rw [← h.1]; omega), ← h.1] at h2
    cases hk : j - rs.length with
    | zero => rw [hk] at h1 h2; simp at h1 h2; subst h1 h2; exact hr
    | succ k => rw [hk] at h1; simp at h1
theorem rws_sees {H : Heap} : ∀ {rs : List AV} {xs : List (List Int)}, Rws H rs xs → ∀ k, reachL H (k + 2) rs = rs.flatMap (fun r => (blkOf r).toList) ∧ ∀ cs, (∀ r ∈ rs, ∀ b, blkOf r = some b → b ∈ cs) → viewL (frzH cs H) (k + 3) rs = some (xs.map vI)
  | [], xs, h, k => by
    have : xs = [] := by have := h.1; simp at this; exact List.length_eq_zero_iff.1 this.symm
    subst this
    exact ⟨by rw [reachL_nil]; rfl, fun cs _ => by rw [viewL_nil]; rfl⟩
  | r :: rs, [], h, k => by have := h.1; simp at this
  | r :: rs, x :: xs, h, k => by
    obtain ⟨h1, h2⟩ := h.tail
    obtain ⟨e1, e2⟩ := rws_sees h2 k
    obtain ⟨f1, f2⟩ := h1.sees (closeds_cI x) k
    refine ⟨by rw [reachL_cons, f1, e1]; rfl, fun cs hm => ?_⟩
    rw [viewL_cons, f2 cs (fun b hb => hm r (by simp) b hb), e2 cs (fun r' hr' => hm r' (by simp [hr']))]
    simp [rv]
/-- A row of rows. -/
def VwR (nl : Bool) (H : Heap) (v : AV) (xs : List (List Int)) : Prop := ∃ rs, Vw nl H v 1 xs.length rs ∧ Rws H rs xs
theorem VwR.sees {nl : Bool} {H : Heap} {v : AV} {xs : List (List Int)} (h : VwR nl H v xs) : ∃ bs, Sees H v (rv nl xs.length 1 (xs.map vI)) bs := by
  obtain ⟨rs, hv, hr⟩ := h
  obtain ⟨e1, e2⟩ := rws_sees hr 8
  rcases hv with ⟨hn, rfl, h⟩ | ⟨h0, b, g, cl, ex, ro, rfl, h1, h2⟩
  · have hx : xs = [] := List.length_eq_zero_iff.1 hn
    subst hx
    cases nl
    · obtain ⟨b, g, o, rfl⟩ := h
      refine ⟨[], reachV_sl0 _ _ _ _ _ _ _, fun cs _ => ?_⟩
      rw [show ([] : List (List Int)).length = 0 from rfl, viewV_sl0]; simp [rv]
    · have : v = .nils := h
      subst this
      refine ⟨[], reachV_closed _ rfl, fun cs _ => ?_⟩
      rw [viewV_closed _ rfl]; simp [rv]
  · have hne : ¬ xs.length = 0 := by omega
    have hlen : rs.length = xs.length := hr.1
    have htk : (rs.drop 0).take (xs.length * 1) = rs := by rw [List.drop_zero, Nat.mul_one, ← hlen, List.take_length]
    refine ⟨b :: rs.flatMap (fun r => (blkOf r).toList), ?_, fun cs hm => ?_⟩
    · simp only [reachV, AV.closed, Bool.false_eq_true, if_false, reachOne, if_neg hne, h2]
      rw [htk, e1]
    · have hb := frz_in cs h2 (hm b (by simp))
      have hvl := e2 cs fun r hr' b' hb' => hm b' (by
        refine List.mem_cons_of_mem _ (List.mem_flatMap.2 ⟨r, hr', ?_⟩)
        rw [hb']; simp)
      rw [show (11 : Nat) = 10 + 1 from rfl]
      conv => lhs; simp only [viewV]
      simp only [AV.closed, Bool.false_eq_true, if_false, viewOne, if_neg hne, hb]
      rw [if_pos ⟨trivial, by omega⟩, htk]
      rw [show viewL (frzH cs H) 10 rs = viewL (frzH cs H) (7 + 3) rs from rfl, (rws_sees hr 7).2 cs fun r hr' b' hb' => hm b' (by
        refine List.mem_cons_of_mem _ (List.mem_flatMap.2 ⟨r, hr', ?_⟩)
        rw [hb']; simp)]
      simp [rv, hne]
theorem sees_a2 {H : Heap} {v u r s : AV} {bs cs : List Nat} (h : Sees H v r bs) (k : Sees H u s cs) : viewA H [v, u] = some ([r, s], frzH (bs ++ cs) H) := by
  have e : reachL H fuelV [v, u] = bs ++ cs := by
    rw [show fuelV = 11 + 1 from rfl, reachL_cons, reachL_cons, reachL_nil, h.1, k.1, List.append_nil]
  rw [viewA_def, e, show fuelV = 10 + 2 from rfl, viewL_cons, viewL_cons, viewL_nil]
  rw [h.2 (bs ++ cs) (fun b hb => List.mem_append_left _ hb), k.2 (bs ++ cs) (fun b hb => List.mem_append_right _ hb)]
  rfl
theorem sees_a1 {H : Heap} {v r : AV} {bs : List Nat} (h : Sees H v r bs) : viewA H [v] = some ([r], frzH bs H) := by
  have e : reachL H fuelV [v] = bs := by
    rw [show fuelV = 11 + 1 from rfl, reachL_cons, reachL_nil, h.1, List.append_nil]
  rw [viewA_def, e, show fuelV = 10 + 2 from rfl, viewL_cons, viewL_nil]
  rw [h.2 bs (fun b hb => hb)]
  rfl
/-- A row of rows that is one's own: the row itself, and its rows, lie from object P on. -/
def OwnR (nl : Bool) (P : Nat) (H : Heap) (v : AV) (xs : List (List Int)) : Prop := ∃ rs, Own nl P H v 1 xs.length rs ∧ Rws H rs xs ∧ ∀ r ∈ rs, ∀ b, blkOf r = some b → P ≤ b ∧ b < H.length ∧ blkOf v ≠ some b
theorem ownR_nil (P : Nat) (H : Heap) : OwnR true P H .nils [] := ⟨[], own_nil P H 1, rws_nil H, fun r hr => by simp at hr⟩
theorem ownR_empty (P : Nat) (H : Heap) (b g o : Nat) : OwnR false P H (.sl b g o 0 1 0 true) [] := ⟨[], own_empty P H 1 b g o, rws_nil H, fun r hr => by simp at hr⟩
theorem OwnR.vwR {nl : Bool} {P : Nat} {H : Heap} {v : AV} {xs : List (List Int)} (h : OwnR nl P H v xs) : VwR nl H v xs := by
  obtain ⟨rs, h1, h2, _⟩ := h
  exact ⟨rs, h1.vw, h2⟩
theorem OwnR.keep {nl : Bool} {P : Nat} {H H' : Heap} {v : AV} {xs : List (List Int)} (h : OwnR nl P H v xs) (hk : ∀ b, P ≤ b → b < H.length → H'[b]? = H[b]?) (hl : H.length ≤ H'.length) : OwnR nl P H' v xs := by
  obtain ⟨rs, h1, h2, h3⟩ := h
  exact ⟨rs, h1.keep fun b hb hbv => hk b (h1.blk hbv).1 hb, h2.keep fun r hr b hb => hk b (h3 r hr b hb).1 (h3 r hr b hb).2.1, fun r hr b hb => ⟨(h3 r hr b hb).1, by have := (h3 r hr b hb).2.1; omega, (h3 r hr b hb).2.2⟩⟩
theorem OwnR.app1 {nl : Bool} {P : Nat} {H : Heap} {v r : AV} {x : List Int} {xs : List (List Int)} (h : OwnR nl P H v xs) (hr : Vw false H r 1 x.length (cI x)) (hb : ∀ b, blkOf r = some b → P ≤ b ∧ b < H.length ∧ blkOf v ≠ some b) (hP : P ≤ H.length) (hn : xs.length < 1000000000000) :
    ∃ v' H', xstep (.app 1 24) [v, .sl H.length 0 0 1 1 1 true] (H ++ [.cells 0 false [r]]) = some (v', H') ∧ OwnR nl P H' v' (xs ++ [x]) ∧ (∀ b, b < P → H'[b]? = H[b]?) ∧ H.length + 1 ≤ H'.length ∧ v'.one = true ∧ v'.cells = [v'] := by
  obtain ⟨rs, h1, h2, h3⟩ := h
  obtain ⟨v', H', e1, e2, e3, e4, e5⟩ := Own.app1 (bytes := 24) (x := [r]) h1 rfl (by simp [hr.one]) hP (by omega)
  have k : ∀ s, (s ∈ rs ∨ s = r) → ∀ b, blkOf s = some b → P ≤ b ∧ b < H.length ∧ blkOf v ≠ some b := by
    rintro s (hs | rfl)
    · exact h3 s hs
    · exact hb
  refine ⟨v', H', e1, ⟨rs ++ [r], by simpa using e2, ?_, ?_⟩, fun b hb' => e3 b (by omega) (fun e => by have := (h1.blk e).1; omega), e4, e2.one, e2.cells⟩
  · refine (h2.snoc hr).keep fun s hs b hbs => ?_
    have := k s (by simpa using hs) b hbs
    exact e3 b this.2.1 this.2.2
  · intro s hs b hbs
    obtain ⟨k1, k2, k3⟩ := k s (by simpa using hs) b hbs
    refine ⟨k1, by omega, fun e => ?_⟩
    rcases e5 b e with h | h
    · exact k3 h
    · omega
end Go.Ai
