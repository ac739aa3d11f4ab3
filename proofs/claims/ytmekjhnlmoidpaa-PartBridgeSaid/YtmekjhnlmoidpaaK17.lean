/- A part of what the law leans on: the abstract machine, the contracts, the rows. -/
import Derived.Test.YtmekjhnlmoidpaaK10
import Derived.Test.YtmekjhnlmoidpaaK15
import Derived.Test.YtmekjhnlmoidpaaK5
/- part: New, Classes; rows of rows told apart. -/
namespace Go.Ai.G
open Go.Ai
set_option maxRecDepth 100000
set_option linter.unusedSimpArgs false
set_option linter.unusedVariables false
variable {A : AProg} {φ : Nat → Nat}
attribute [local simp ↓] getD_z getD_s hid_k hid_o hid_q hid_v PO_nil PO_none PO_grd PD_nil PD_none PD_grd PDO_N PDO_X PDO_call PDO_calli PDO_callv PStep_N PStep_X PStep_call PStep_calli PC_skip PC_lab
  PC_ret PC_exit PC_reg PC_draw PC_seq PC_block PC_loop PC_scope PC_cond thenC_norm thenC_ret thenC_exit blockC_norm blockC_ret blockC_exit loopC_norm loopC_ret loopC_exit endR_ret
  endR_norm
attribute [local simp] gz PDX_free PDX_eq PStep_callv resK_none resK_t resK_tt KNO_val KNO_new KNO_ite KNO_map KXO_some KXO_ite KVA_t KVA_f KG_skip KG_tt KG_ff KG_tf KG_ft KB_true KB_false KNOD_val
  KNOD_new KNOD_ite n_mv n_pick n_bin n_eqB n_eqN n_eqS n_un n_conv n_fadd n_faddV n_fld1 n_fldN n_idx n_idxA n_idxV n_idxAV n_ext n_lenS n_lenS0 n_lenV n_lenT n_lenA n_min n_max
  n_build n_mkfn n_slc n_slc0 n_slcV n_slcA n_load1 n_loadN n_load1V n_loadNV n_alloc n_box n_bsl n_mksl n_nilcP n_nilcV n_nilcI n_nilcF x_store x_clear0 x_clear b_add b_sub b_mul
  b_eql b_neq b_lss b_leq b_gtr b_geq b_and16 unV ntouch gather hide unhide evalOpd applyOuts int_bne int_beq ite_bool ite_int one_bool cells_bool one_int cells_int one_str cells_str
  one_nilp cells_nilp one_ptr cells_ptr one_nils cells_nils one_sl cells_sl one_nilf cells_nilf one_fn cells_fn one_nili cells_nili one_mp cells_mp one_nilm cells_nilm one_iface
  cells_iface one_vs cells_vs one_vp cells_vp cells_agg Nat.testBit setAt_1 setAt_2 closeds_nil closeds_cons closed_bool closed_int closed_str closed_nilp closed_nils closed_nilm
  closed_nilf closed_nili closed_agg closed_tup closed_vs closed_vp closed_iface closed_fn closeds_cI closeds_cE viewA_closed viewR_closed AV.scal AV.scal0 fillA repA part_bool
  part_int part_str part_nilp part_ptr part_nils part_sl part_nilm part_mp part_nilf part_fn part_nili part_iface part_agg part_vs part_vp viewA_sl1 vaSl_cells wrap_0 wrap_1 wrap_2
  wrap_m1 set_last get_last
theorem er70_0 (φ : Nat → Nat) : r70_0 φ = [
  ⟨0, .N .mv, [.c (.bool false)], none, 0⟩] := Eq.trans rfl rfl
theorem er70_1 (φ : Nat → Nat) : r70_1 φ = [
  ⟨0, .N .mv, [.n 0], none, 0⟩,
  ⟨1, .N .lenS, [.l 0], none, 0⟩,
  ⟨2, .N .mv, [.n 1], none, 0⟩,
  ⟨3, .N .lenS, [.l 0], none, 0⟩,
  ⟨4, .N (.bin .neq), [.l 2, .l 0], none, 0⟩] := Eq.trans rfl rfl
theorem er70_2 (φ : Nat → Nat) : r70_2 φ = [
  ⟨0, .N .mv, [.c (.bool false)], none, 0⟩] := Eq.trans rfl rfl
theorem er70_3 (φ : Nat → Nat) : r70_3 φ = [
  ⟨0, .N .mv, [.c (.int .i64 0)], none, 0⟩] := Eq.trans rfl rfl
theorem er70_4 (φ : Nat → Nat) : r70_4 φ = [
  ⟨0, .N .mv, [.n 3], none, 0⟩,
  ⟨1, .N .mv, [.n 0], none, 0⟩,
  ⟨2, .N .lenS, [.l 0], none, 0⟩,
  ⟨3, .N (.bin .lss), [.l 2, .l 0], none, 0⟩] := Eq.trans rfl rfl
theorem er70_5 (φ : Nat → Nat) : r70_5 φ = [
  ⟨0, .N .mv, [.n 0], none, 0⟩,
  ⟨1, .N .mv, [.n 3], none, 0⟩,
  ⟨2, .N (.idx 1), [.l 1, .l 0], none, 3⟩,
  ⟨3, .N .load1, [.l 0], none, 7⟩,
  ⟨4, .N .mv, [.n 1], none, 0⟩,
  ⟨5, .N .mv, [.n 3], none, 0⟩,
  ⟨6, .N (.idx 1), [.l 1, .l 0], none, 48⟩,
  ⟨7, .N .load1, [.l 0], none, 112⟩,
  ⟨8, .calli true (φ 11), [.l 4, .l 0], none, 255⟩,
  ⟨9, .N (.un .not), [.l 0], none, 511⟩] := Eq.trans rfl rfl
theorem er70_6 (φ : Nat → Nat) : r70_6 φ = [
  ⟨0, .N .mv, [.c (.bool false)], none, 0⟩] := Eq.trans rfl rfl
theorem er70_7 (φ : Nat → Nat) : r70_7 φ = [
  ⟨0, .N .mv, [.n 3], none, 0⟩,
  ⟨1, .N (.bin .add), [.l 0, .c (.int .i64 1)], none, 0⟩,
  ⟨2, .N .mv, [.l 0], none, 0⟩] := Eq.trans rfl rfl
theorem er70_9 (φ : Nat → Nat) : r70_9 φ = [
  ⟨0, .N .mv, [.c (.bool true)], none, 0⟩] := Eq.trans rfl rfl
theorem w_Classes (hx : A.ext (φ 68) = some clsExt) {H : Heap} {b bu bs N : Nat} {r : Nat → Nat} {cnt : Int} (p : PS H b bu bs N r cnt) (hN : N ≤ 1000) (K : AV → Heap → Prop)
    (hK : ∀ H', PS H' b bu bs N r cnt → (∀ k, k ≠ bu → H'[k]? = H[k]?) → H'.length = H.length → K (rowsV (cls r N)) H') : PCall A (φ 68) [.ptr b 0 0] H K := by
  obtain ⟨up, sz, pa, d, D, hd⟩ := p
  have hda : ∀ i, i < N → d i ≤ N := fun i hi => by have := hd i hi; have := csz_le N r (r i); omega
  have e1 := dec_okUp D hda
  have e2 : cls (iterU up N) N = cls r N := cls_congr fun i hi => iterU_dec D N i hi (hda i hi)
  have D2 := allTop_dec D hda (2 * N) (Nat.le_refl _)
  have h1 : clsExt [.ptr b 0 0] H = some (.ok (rowsV (cls r N)) (H.set bu (.cells 0 false (cI (allTop N up (2 * N)))))) := by
    unfold clsExt
    simp only [pa.hb, pa.hu]
    rw [if_pos ⟨trivial, trivial, hN, pa.ne.1⟩]
    simp only [decI_cI, e1, if_true, e2]
  refine ⟨1, _, _, ?_, hK _ ⟨_, sz, ⟨?_, List.getElem?_set_self (lt_of_get pa.hu), ?_, D2.len, pa.ls, pa.ne⟩, d, D2, hd⟩ (fun k hk => List.getElem?_set_ne (fun e => hk e.symm)) (by simp)⟩
  · show (match A.ext (φ 68) with | some x => x [.ptr b 0 0] H | none => _) = _
    rw [hx]; exact h1
  · rw [List.getElem?_set_ne (fun e => pa.ne.1 e.symm)]; exact pa.hb
  · rw [List.getElem?_set_ne pa.ne.2.2]; exact pa.hs
/-- The numbers of a new Part, behind k rounds. -/
def upK (k N : Nat) : List Int := (List.range N).map fun (i : Nat) => if i < k then (i : Int) else 0
def szK (k N : Nat) : List Int := (List.range N).map fun (i : Nat) => if i < k then 1 else 0
theorem mapR_set (f g : Nat → Int) (N k : Nat) (h : ∀ i, i < N → g i = if i = k then g k else f i) : ((List.range N).map f).set k (g k) = (List.range N).map g := by
  apply List.ext_getElem?
  intro i
  rw [List.getElem?_set]
  by_cases hi : i < N
  · have e := h i hi
    simp only [List.getElem?_map, List.getElem?_range hi, Option.map_some, List.length_map, List.length_range]
    by_cases hk : k = i
    · subst hk; simp [hi]
    · rw [if_neg hk, e, if_neg (fun x => hk x.symm)]
  · simp only [List.length_map, List.length_range]
    have e2 : (List.range N)[i]? = none := List.getElem?_eq_none (by simp; omega)
    by_cases hk : k = i
    · subst hk; simp [hi]
    · rw [if_neg hk]; simp [e2]
theorem upK_step {k N : Nat} (h : k < N) : (upK k N).set k (k : Int) = upK (k + 1) N := by
  have := mapR_set (fun i => if i < k then (i : Int) else 0) (fun i => if i < k + 1 then (i : Int) else 0) N k (fun i _ => by
    by_cases e : i = k
    · subst e; rw [if_pos rfl]
    · rw [if_neg e]; split <;> split <;> first | rfl | omega)
  simp only [if_pos (Nat.lt_succ_self k)] at this
  exact this
theorem szK_step {k N : Nat} (h : k < N) : (szK k N).set k 1 = szK (k + 1) N := by
  have := mapR_set (fun i => if i < k then 1 else 0) (fun i => if i < k + 1 then 1 else 0) N k (fun i _ => by
    by_cases e : i = k
    · subst e; rw [if_pos rfl]
    · rw [if_neg e]; split <;> split <;> first | rfl | omega)
  simp only [if_pos (Nat.lt_succ_self k)] at this
  exact this
theorem rep_new (N : Nat) : Rep N id (upK N N) := by
  have hu : ∀ i, i < N → upn (upK N N) i = i := fun i hi => by
    unfold upn upK
    rw [List.getD_eq_getElem?_getD]; simp [hi]
  refine ⟨fun _ => 0, ⟨by simp [upK], fun i hi => ?_, fun i hi => by rw [hu i hi]; exact hi, fun i hi => by rw [hu i hi], fun i hi => by rw [hu i hi]; simp, fun i hi => hi, fun i hi => rfl, fun i hi hn => absurd (hu i hi) hn⟩, fun i hi => csz_pos (r := id) hi⟩
  rw [hu i hi]
  unfold upK
  simp [hi]
def clampN (n : Int) : Nat := (min (max n 0) 1000).toNat
theorem w_PNew (h : Has A (φ 60) (f60 φ)) (n : Int) (H : Heap) (K : AV → Heap → Prop)
    (hK : ∀ H', PS H' (H.length + 2) H.length (H.length + 1) (clampN n) id (clampN n) → (∀ k, k < H.length → H'[k]? = H[k]?) → H'.length = H.length + 3 → K (.ptr (H.length + 2) 0 0) H') : PCall A (φ 60) [.int .i64 n] H K := by
  obtain ⟨N, hN⟩ : ∃ N : Nat, clampN n = N := ⟨_, rfl⟩
  have hN1 : N ≤ 1000 := by unfold clampN at hN; omega
  have hmm : min (max n 0) 1000 = (N : Int) := by unfold clampN at hN; omega
  rw [hN] at hK
  have m1 := maxV_i n 0
  have m2 := minV_i (max n 0) 1000
  rw [hmm] at m2
  refine pcall_has h rfl ?_
  simp only [l60_8, b60, f60]
  have hr0 : repA [.int .i64 0] N = cI (upK 0 N) := by
    rw [repA_repl]; unfold upK cI
    rw [List.map_map]
    apply List.ext_getElem?
    intro i
    rw [List.getElem?_replicate]
    by_cases hi : i < N
    · rw [if_pos hi]; simp [hi]
    · rw [if_neg hi, List.getElem?_eq_none (by simp; omega)]
  have hr1 : repA [.int .i64 0] N = cI (szK 0 N) := by rw [hr0]; rfl
  simp [-List.getD_eq_getElem?_getD, -Int.ofNat_toNat, -getElem?_pos, er60_0, er60_1, er60_2, er60_3, er60_4, er60_5, er60_6, er60_7, er60_9, m1, m2, foldV]
  refine ⟨by omega, ?_⟩
  have hst : ∀ S : Ob, (H ++ [Ob.cells 0 false (repA [.int .i64 0] N), Ob.cells 0 false (repA [.int .i64 0] N), S] : Heap) = H ++ [Ob.cells 0 false (cI (upK 0 N)), Ob.cells 0 false (cI (szK 0 N)), S] := fun S => by rw [← hr0, ← hr1]
  rw [hst]
  refine pc_loopI (fun m st => ∃ (k : Nat) (p3 p6 : AV), k + m = N ∧ st = ([.int .i64 N, .nilp, .ptr (H.length + 2) 0 0, p3, .int .i64 N, .int .i64 k, p6],
    H ++ [Ob.cells 0 false (cI (upK k N)), Ob.cells 0 false (cI (szK k N)), Ob.cells 0 false [.sl H.length 0 0 N 1 N true, .sl (H.length + 1) 0 0 N 1 N true, .int .i64 N]])) N ⟨0, _, _, by simp, rfl⟩ ?_
  rintro m st ⟨k, p3, p6, hk, rfl⟩
  by_cases hlt : k < N
  · have hlt' : (k : Int) < N := by omega
    have hkw := wrap1 hlt (by omega)
    have l1 : (cI (upK k N)).length = N := by simp [cI, upK]
    have l2 : (cI (szK k N)).length = N := by simp [cI, szK]
    have s1 : setAt (cI (upK k N)) k [.int .i64 (k : Int)] = cI (upK (k + 1) N) := by rw [setAt_one _ (by omega), ← cI_set, upK_step hlt]
    have s2 : setAt (cI (szK k N)) k [.int .i64 1] = cI (szK (k + 1) N) := by rw [setAt_one _ (by omega), ← cI_set, szK_step hlt]
    have hk1 : k + 1 ≤ N := by omega
    simp [-List.getD_eq_getElem?_getD, -Int.ofNat_toNat, -getElem?_pos, er60_0, er60_1, er60_2, er60_3, er60_4, er60_5, er60_6, er60_7, er60_9, hlt', hlt, hkw, get_at, get_at0, set_at, set_at0, l1, l2, s1, s2, hk1]
    exact next_mk (m - 1) (by omega) ⟨k + 1, _, _, by omega, rfl⟩
  · have hke : k = N := by omega
    subst hke
    have hK' := hK (H ++ [Ob.cells 0 false (cI (upK k k)), Ob.cells 0 false (cI (szK k k)), Ob.cells 0 false [.sl H.length 0 0 k 1 k true, .sl (H.length + 1) 0 0 k 1 k true, .int .i64 k]])
      ⟨upK k k, szK k k, ⟨by rw [get_at]; rfl, by rw [get_at0]; rfl, by rw [get_at]; rfl, by simp [upK], by simp [szK], by omega⟩, rep_new k⟩ (fun i hi => List.getElem?_append_left hi) (by simp)
    simp [-List.getD_eq_getElem?_getD, -Int.ofNat_toNat, -getElem?_pos, er60_0, er60_1, er60_2, er60_3, er60_4, er60_5, er60_6, er60_7, er60_9, resK, resVs, resV, pack]
    exact hK'
/-- Rows of rows, as a value. -/
def IsRows (v : AV) (rows : List (List Int)) : Prop := (v = .nils ∧ rows = []) ∨ ∃ l : List AV, v = .vs rows.length 1 l ∧ l.length = rows.length ∧ AV.closeds l = true ∧ ∀ (j : Nat) x zs, l[j]? = some x → rows[j]? = some zs → IsI x zs
theorem isRows_v (rows : List (List Int)) : IsRows (rowsV rows) rows := by
  unfold rowsV
  by_cases h : rows = []
  · rw [if_pos h]; exact .inl ⟨rfl, h⟩
  · rw [if_neg h]
    refine .inr ⟨_, rfl, by simp, ?_, fun j x zs hx hz => ?_⟩
    · rw [closeds_iff]
      intro i x hx
      rw [List.getElem?_map, Option.map_eq_some_iff] at hx
      obtain ⟨zs, _, rfl⟩ := hx
      exact closeds_cI zs
    · rw [List.getElem?_map, hz] at hx
      cases hx
      exact isI_v zs
theorem IsRows.closed {v : AV} {rows : List (List Int)} (h : IsRows v rows) : v.closed = true := by
  rcases h with ⟨rfl, _⟩ | ⟨l, rfl, _, hc, _⟩
  · rfl
  · exact hc
theorem IsRows.len {v : AV} {rows : List (List Int)} (h : IsRows v rows) (rd : Nat → Option Ob) : nstep .lenS [v] rd = some (.val (.int .i64 rows.length)) := by
  rcases h with ⟨rfl, rfl⟩ | ⟨l, rfl, _⟩ <;> rfl
theorem IsRows.one {v : AV} {rows : List (List Int)} (h : IsRows v rows) : v.one = true := by
  rcases h with ⟨rfl, rfl⟩ | ⟨l, rfl, _⟩ <;> rfl
theorem IsRows.at {v : AV} {rows : List (List Int)} (h : IsRows v rows) {i : Nat} (hi : i < rows.length) : ∃ l x, (∀ (k : IntKind) rd, nstep (.idx 1) [v, .int k (i : Int)] rd = some (.val (.vp l i))) ∧ l[i]? = some x ∧ IsI x rows[i] := by
  rcases h with ⟨rfl, rfl⟩ | ⟨l, rfl, hl, _, hx⟩
  · simp at hi
  · have hil : i < l.length := by omega
    refine ⟨l, l[i], fun k rd => ?_, List.getElem?_eq_getElem hil, hx i _ _ (List.getElem?_eq_getElem hil) (List.getElem?_eq_getElem hi)⟩
    rw [n_idxV, if_pos ⟨rfl, by omega, by omega, by omega⟩]; simp
theorem w_SameRows (h : Has A (φ 70) (f70 φ)) (hS : ∀ v u xs ys, IsI v xs → IsI u ys → xs.length < 1000000000000 → PVal A (φ 11) [v, u] (.bool (decide (xs = ys)))) (v u : AV) (xs ys : List (List Int)) (hv : IsRows v xs) (hu : IsRows u ys)
    (hn : xs.length < 1000000) (hr : ∀ l ∈ xs, l.length < 1000000) : PVal A (φ 70) [v, u] (.bool (decide (xs = ys))) := by
  have l1 := hv.len
  have l2 := hu.len
  refine pval_has h rfl ?_
  simp only [l70_8, b70, f70]
  by_cases hl : xs.length = ys.length
  · have hl' : (xs.length : Int) = ys.length := by omega
    simp [-List.getD_eq_getElem?_getD, -Int.ofNat_toNat, -getElem?_pos, er70_0, er70_1, er70_2, er70_3, er70_4, er70_5, er70_6, er70_7, er70_9, l1, l2, hl]
    refine pc_loopI (fun m st => ∃ (i : Nat) (p5 p6 : AV), i + m = xs.length ∧ xs.take i = ys.take i ∧ st = ([v, u, .bool false, .int .i64 i, .bool false, p5, p6], [])) xs.length ⟨0, _, _, by simp, by simp, rfl⟩ ?_
    rintro m st ⟨i, p5, p6, hi, he, rfl⟩
    by_cases hlt : i < xs.length
    · have hlt2 : i < ys.length := by omega
      have hlt' : (i : Int) < ys.length := by omega
      obtain ⟨c1, x1, a1, b1, d1⟩ := hv.at hlt
      obtain ⟨c2, x2, a2, b2, d2⟩ := hu.at hlt2
      have hw1 := wrap1 hlt (by omega)
      have hlen := hr _ (List.getElem_mem hlt)
      have cS := (hS x1 x2 _ _ d1 d2 (by omega)).eq
      have t1 : xs.take (i + 1) = xs.take i ++ [xs[i]] := List.take_succ_eq_append_getElem hlt
      have t2 : ys.take (i + 1) = ys.take i ++ [ys[i]] := List.take_succ_eq_append_getElem hlt2
      by_cases q : xs[i] = ys[i]
      · rw [decide_eq_true q] at cS
        simp [-List.getD_eq_getElem?_getD, -Int.ofNat_toNat, -getElem?_pos, er70_0, er70_1, er70_2, er70_3, er70_4, er70_5, er70_6, er70_7, er70_9, l1, l2, hl, hlt', hlt2, a1, a2, b1, b2, d1.closed, d2.closed, d1.one, d2.one, cS, hw1, PDX_eq]
        exact next_mk (m - 1) (by omega) ⟨i + 1, _, _, by omega, by rw [t1, t2, he, q], rfl⟩
      · have hne : ¬ xs = ys := fun e => q (by subst e; rfl)
        rw [decide_eq_false q] at cS
        simp [-List.getD_eq_getElem?_getD, -Int.ofNat_toNat, -getElem?_pos, er70_0, er70_1, er70_2, er70_3, er70_4, er70_5, er70_6, er70_7, er70_9, l1, l2, hl, hlt', hlt2, a1, a2, b1, b2, d1.closed, d2.closed, d1.one, d2.one, cS, hne, PDX_eq, resK, resVs, resV, pack]
    · have hlt' : ¬ (i : Int) < ys.length := by omega
      have e : xs = ys := by rw [List.take_of_length_le (by omega), List.take_of_length_le (by omega)] at he; exact he
      simp [-List.getD_eq_getElem?_getD, -Int.ofNat_toNat, -getElem?_pos, er70_0, er70_1, er70_2, er70_3, er70_4, er70_5, er70_6, er70_7, er70_9, l1, l2, hl, hlt', e, resK, resVs, resV, pack]
      try omega
  · have hne : ¬ xs = ys := fun e => hl (by rw [e])
    have hl' : ¬ (xs.length : Int) = ys.length := by omega
    simp [-List.getD_eq_getElem?_getD, -Int.ofNat_toNat, -getElem?_pos, er70_0, er70_1, er70_2, er70_3, er70_4, er70_5, er70_6, er70_7, er70_9, l1, l2, hl, hl', hne, resK, resVs, resV, pack]
end Go.Ai.G
/- Joins, as an equivalence; how many classes there are. -/
namespace Go.Ai.G
open Go.Ai
set_option maxRecDepth 100000
set_option linter.unusedSimpArgs false
set_option linter.unusedVariables false
variable {A : AProg} {φ : Nat → Nat}
/-- What joins make one. -/
inductive Cn (ps : List (Nat × Nat)) : Nat → Nat → Prop where
  | of {a b : Nat} (h : (a, b) ∈ ps) : Cn ps a b
  | refl (a : Nat) : Cn ps a a
  | symm {a b : Nat} (h : Cn ps a b) : Cn ps b a
  | trans {a b c : Nat} (h : Cn ps a b) (k : Cn ps b c) : Cn ps a c
theorem Cn.mono {ps qs : List (Nat × Nat)} (h : ∀ a b, (a, b) ∈ ps → Cn qs a b) : ∀ {a b : Nat}, Cn ps a b → Cn qs a b := by
  intro a b hc
  induction hc with
  | of hm => exact h _ _ hm
  | refl a => exact .refl a
  | symm _ ih => exact .symm ih
  | trans _ _ ih1 ih2 => exact .trans ih1 ih2
theorem Cn.fn {α : Type} {ps : List (Nat × Nat)} (f : Nat → α) (h : ∀ a b, (a, b) ∈ ps → f a = f b) : ∀ {a b : Nat}, Cn ps a b → f a = f b := by
  intro a b hc
  induction hc with
  | of hm => exact h _ _ hm
  | refl a => rfl
  | symm _ ih => exact ih.symm
  | trans _ _ ih1 ih2 => exact ih1.trans ih2
def Joined (N : Nat) (ps : List (Nat × Nat)) (r : Nat → Nat) : Prop := (∀ i j, Cn ps i j → r i = r j) ∧ ∀ i j, i < N → j < N → r i = r j → Cn ps i j
theorem joined_nil (N : Nat) : Joined N [] id := ⟨fun i j h => h.fn id (by simp), fun i j _ _ h => by have : i = j := h; subst this; exact .refl i⟩
theorem joined_step {N : Nat} {ps : List (Nat × Nat)} {r r' : Nat → Nat} (h : Joined N ps r) {a c : Nat} (ha : a < N) (hc : c < N) {ok : Bool} {cnt cnt' : Int} (hj : JoinR N r r' (a : Int) (c : Int) ok cnt cnt') : Joined N ((a, c) :: ps) r' := by
  have hmono : ∀ {i j}, Cn ps i j → Cn ((a, c) :: ps) i j := fun hc => hc.mono fun a b hm => .of (List.mem_cons_of_mem _ hm)
  have hac : Cn ((a, c) :: ps) a c := .of (List.mem_cons_self ..)
  have ta : ((a : Int)).toNat = a := by omega
  have tc : ((c : Int)).toNat = c := by omega
  cases ok with
  | false =>
    obtain ⟨rfl, _⟩ := hj.no rfl
    have hv := hj.val
    rw [ta, tc] at hv
    have hr : r' a = r' c := by
      have := of_decide_eq_false hv.symm
      refine Decidable.byContradiction fun hne => this ⟨⟨by omega, by omega⟩, ⟨by omega, by omega⟩, hne⟩
    refine ⟨fun i j hc => hc.fn r' fun x y hm => ?_, fun i j hi hj' he => hmono (h.2 i j hi hj' he)⟩
    rcases List.mem_cons.1 hm with e | hm
    · cases e; exact hr
    · exact h.1 x y (.of hm)
  | true =>
    obtain ⟨_, x, y, hxy, hor, rfl⟩ := hj.yes rfl
    rw [ta, tc] at hor
    constructor
    · intro i j hcn
      refine hcn.fn (fun i => if r i = y then x else r i) fun u v hm => ?_
      rcases List.mem_cons.1 hm with e | hm
      · cases e
        show (if r a = y then x else r a) = (if r c = y then x else r c)
        rcases hor with ⟨rfl, rfl⟩ | ⟨rfl, rfl⟩
        · rw [if_pos rfl, if_neg hxy]
        · rw [if_pos rfl, if_neg hxy]
      · have := h.1 u v (.of hm)
        simp only [this]
    · intro i j hi hj' he
      have toa : ∀ i, i < N → r i = r a → Cn ((a, c) :: ps) i a := fun i hi e => hmono (h.2 i a hi ha e)
      have toc : ∀ i, i < N → r i = r c → Cn ((a, c) :: ps) i a := fun i hi e => .trans (hmono (h.2 i c hi hc e)) (.symm hac)
      have both : ∀ i, i < N → (r i = x ∨ r i = y) → Cn ((a, c) :: ps) i a := fun i hi e => by
        rcases hor with ⟨rfl, rfl⟩ | ⟨rfl, rfl⟩
        · rcases e with e | e
          · exact toa i hi e
          · exact toc i hi e
        · rcases e with e | e
          · exact toc i hi e
          · exact toa i hi e
      have he : (if r i = y then x else r i) = (if r j = y then x else r j) := he
      by_cases e1 : r i = y
      · rw [if_pos e1] at he
        by_cases e2 : r j = y
        · exact hmono (h.2 i j hi hj' (e1.trans e2.symm))
        · rw [if_neg e2] at he
          exact .trans (both i hi (.inr e1)) (.symm (both j hj' (.inl he.symm)))
      · rw [if_neg e1] at he
        by_cases e2 : r j = y
        · rw [if_pos e2] at he
          exact .trans (both i hi (.inl he)) (.symm (both j hj' (.inr e2)))
        · rw [if_neg e2] at he
          exact hmono (h.2 i j hi hj' he)
theorem joined_rel {N : Nat} {ps qs : List (Nat × Nat)} {r r' : Nat → Nat} (h : Joined N ps r) (k : Joined N qs r') (h1 : ∀ a b, (a, b) ∈ ps → Cn qs a b) (h2 : ∀ a b, (a, b) ∈ qs → Cn ps a b) : ∀ i j, i < N → j < N → (r i = r j ↔ r' i = r' j) :=
  fun i j hi hj => ⟨fun e => k.1 i j ((h.2 i j hi hj e).mono h1), fun e => h.1 i j ((k.2 i j hi hj e).mono h2)⟩
theorem cls_rel {N : Nat} {r r' : Nat → Nat} (h : ∀ i j, i < N → j < N → (r i = r j ↔ r' i = r' j)) : cls r N = cls r' N := by
  have hg : ∀ i, i < N → gcl r N (r i) = gcl r' N (r' i) := fun i hi => by
    unfold gcl
    congr 1
    refine List.filter_congr fun j hj => ?_
    have := h j i (List.mem_range.1 hj) hi
    rw [decide_eq_decide]
    constructor
    · intro e; have := this.1 (by omega); omega
    · intro e; have := this.2 (by omega); omega
  unfold cls
  have e : (List.range N).filter (fun i => decide (ghd (gcl r N (r i)) = (i : Int))) = (List.range N).filter fun i => decide (ghd (gcl r' N (r' i)) = (i : Int)) :=
    List.filter_congr fun i hi => by rw [hg i (List.mem_range.1 hi)]
  rw [e]
  exact List.map_congr_left fun i hi => hg i (List.mem_range.1 (List.mem_filter.1 hi).1)
def rootsN (N : Nat) (r : Nat → Nat) : Nat := ((List.range N).filter fun i => decide (r i = i)).length
theorem rep_facts {N : Nat} {r : Nat → Nat} {up : List Int} (h : Rep N r up) : (∀ i, i < N → r i < N) ∧ ∀ i, i < N → r (r i) = r i := by
  obtain ⟨d, D, _⟩ := h
  exact ⟨D.rlt, D.rr⟩
theorem roots_cls {N : Nat} {r : Nat → Nat} (hlt : ∀ i, i < N → r i < N) (hrr : ∀ i, i < N → r (r i) = r i) : rootsN N r = (cls r N).length := by
  have hne : ∀ i, i < N → gcl r N (r i) ≠ [] := fun i hi h => by
    have : (i : Int) ∈ gcl r N (r i) := (gcl_mem _ _ _ _).2 ⟨i, hi, rfl, rfl⟩
    rw [h] at this; simp at this
  unfold rootsN cls
  rw [List.length_map]
  have e1 : (((List.range N).filter fun i => decide (r i = i)).map fun i => (ghd (gcl r N (r i))).toNat).length = ((List.range N).filter fun i => decide (r i = i)).length := List.length_map ..
  rw [← e1]
  refine len_of_mem _ _ ?_ ((List.nodup_range).filter _) fun x => ?_
  · rw [List.Nodup, List.pairwise_map]
    refine List.Pairwise.imp_of_mem ?_ ((List.nodup_range (n := N)).filter _)
    intro a b ha hb hab he
    simp only [List.mem_filter, List.mem_range, decide_eq_true_eq] at ha hb
    obtain ⟨i, h1, h2, h3⟩ := (gcl_mem _ _ _ _).1 (ghd_mem (hne a ha.1))
    obtain ⟨j, h4, h5, h6⟩ := (gcl_mem _ _ _ _).1 (ghd_mem (hne b hb.1))
    have : i = j := by omega
    subst this
    apply hab
    have : r a = r b := by omega
    rw [ha.2, hb.2] at this; exact this
  · simp only [List.mem_map, List.mem_filter, List.mem_range, decide_eq_true_eq]
    constructor
    · rintro ⟨i, ⟨h1, h2⟩, rfl⟩
      obtain ⟨j, h3, h4, h5⟩ := (gcl_mem _ _ _ _).1 (ghd_mem (hne i h1))
      have e : (ghd (gcl r N (r i))).toNat = j := by omega
      rw [e]
      refine ⟨h3, ?_⟩
      rw [h4, h5]
    · rintro ⟨h1, h2⟩
      refine ⟨r x, ⟨hlt x h1, hrr x h1⟩, ?_⟩
      rw [hrr x h1, h2]; omega
theorem roots_step {N : Nat} {r r' : Nat → Nat} (hlt : ∀ i, i < N → r i < N) (hrr : ∀ i, i < N → r (r i) = r i) {a c : Int} {cnt cnt' : Int} {ok : Bool} (hj : JoinR N r r' a c ok cnt cnt') (hc : cnt = rootsN N r) : cnt' = rootsN N r' := by
  cases ok with
  | false =>
    obtain ⟨rfl, rfl⟩ := hj.no rfl
    exact hc
  | true =>
    obtain ⟨rfl, x, y, hxy, hor, rfl⟩ := hj.yes rfl
    have hv := of_decide_eq_true hj.val.symm
    obtain ⟨⟨a1, a2⟩, ⟨c1, c2⟩, _⟩ := hv
    have hx : x < N ∧ r x = x := by
      rcases hor with ⟨rfl, rfl⟩ | ⟨rfl, rfl⟩ <;> exact ⟨hlt _ (by omega), hrr _ (by omega)⟩
    have hy : y < N ∧ r y = y := by
      rcases hor with ⟨rfl, rfl⟩ | ⟨rfl, rfl⟩ <;> exact ⟨hlt _ (by omega), hrr _ (by omega)⟩
    have hn : (y :: (List.range N).filter fun i => decide ((if r i = y then x else r i) = i)).length = ((List.range N).filter fun i => decide (r i = i)).length := by
      refine len_of_mem _ _ ?_ ((List.nodup_range).filter _) fun z => ?_
      · rw [List.nodup_cons]
        refine ⟨fun hm => ?_, (List.nodup_range).filter _⟩
        simp only [List.mem_filter, List.mem_range, decide_eq_true_eq] at hm
        rw [if_pos hy.2] at hm
        exact hxy hm.2
      · simp only [List.mem_cons, List.mem_filter, List.mem_range, decide_eq_true_eq]
        constructor
        · rintro (rfl | ⟨h1, h2⟩)
          · exact hy
          · refine ⟨h1, ?_⟩
            by_cases e : r z = y
            · rw [if_pos e] at h2
              subst h2
              exact hx.2
            · rw [if_neg e] at h2; exact h2
        · rintro ⟨h1, h2⟩
          by_cases e : z = y
          · exact .inl e
          · refine .inr ⟨h1, ?_⟩
            rw [if_neg (by rw [h2]; exact e)]; exact h2
    simp only [List.length_cons] at hn
    have hg : rootsN N (fun i => if r i = y then x else r i) = ((List.range N).filter fun i => decide ((if r i = y then x else r i) = i)).length := rfl
    rw [hg]
    unfold rootsN at hc
    omega
/-- A Part in the memory behind these joins. -/
def PSJ (H : Heap) (b bu bs N : Nat) (ps : List (Nat × Nat)) : Prop := ∃ r cnt, PS H b bu bs N r cnt ∧ Joined N ps r ∧ cnt = (rootsN N r : Nat)
theorem roots_le (N : Nat) (r : Nat → Nat) : rootsN N r ≤ N := by
  unfold rootsN
  exact Nat.le_trans (List.length_filter_le _ _) (by simp)
theorem roots_id (N : Nat) : rootsN N id = N := by
  unfold rootsN
  rw [List.filter_eq_self.2 (by simp)]; simp
theorem w_JoinJ (h : Has A (φ 64) (f64 φ)) (hi : Has A (φ 80) (f80 φ)) (ht : Has A (φ 81) (f81 φ)) {H : Heap} {b bu bs N : Nat} {ps : List (Nat × Nat)} (p : PSJ H b bu bs N ps) (hN : N ≤ 1000) {a c : Nat} (ha : a < N) (hc : c < N)
    (K : AV → Heap → Prop) (hK : ∀ H' ok, PSJ H' b bu bs N ((a, c) :: ps) → (∀ k, k ≠ b → k ≠ bu → k ≠ bs → H'[k]? = H[k]?) → H'.length = H.length → K (.bool ok) H') : PCall A (φ 64) [.ptr b 0 0, .int .i64 a, .int .i64 c] H K := by
  obtain ⟨r, cnt, p, hJ, hcn⟩ := p
  have hrl := roots_le N r
  refine w_Join h hi ht p (by omega) a c K fun H' r' cnt' ok p' k l j => ?_
  obtain ⟨up, sz, _, hr⟩ := p
  obtain ⟨f1, f2⟩ := rep_facts hr
  exact hK H' ok ⟨r', cnt', p', joined_step hJ ha hc j, roots_step f1 f2 j hcn⟩ k l
end Go.Ai.G
/- PartOrder. -/
namespace Go.Ai.G
open Go.Ai
set_option maxRecDepth 100000
set_option linter.unusedSimpArgs false
set_option linter.unusedVariables false
variable {A : AProg} {φ : Nat → Nat}
attribute [local simp ↓] getD_z getD_s hid_k hid_o hid_q hid_v PO_nil PO_none PO_grd PD_nil PD_none PD_grd PDO_N PDO_X PDO_call PDO_calli PDO_callv PStep_N PStep_X PStep_call PStep_calli PC_skip PC_lab
  PC_ret PC_exit PC_reg PC_draw PC_seq PC_block PC_loop PC_scope PC_cond thenC_norm thenC_ret thenC_exit blockC_norm blockC_ret blockC_exit loopC_norm loopC_ret loopC_exit endR_ret
  endR_norm
attribute [local simp] gz PDX_free PDX_eq PStep_callv resK_none resK_t resK_tt KNO_val KNO_new KNO_ite KNO_map KXO_some KXO_ite KVA_t KVA_f KG_skip KG_tt KG_ff KG_tf KG_ft KB_true KB_false KNOD_val
  KNOD_new KNOD_ite n_mv n_pick n_bin n_eqB n_eqN n_eqS n_un n_conv n_fadd n_faddV n_fld1 n_fldN n_idx n_idxA n_idxV n_idxAV n_ext n_lenS n_lenS0 n_lenV n_lenT n_lenA n_min n_max
  n_build n_mkfn n_slc n_slc0 n_slcV n_slcA n_load1 n_loadN n_load1V n_loadNV n_alloc n_box n_bsl n_mksl n_nilcP n_nilcV n_nilcI n_nilcF x_store x_clear0 x_clear b_add b_sub b_mul
  b_eql b_neq b_lss b_leq b_gtr b_geq b_and16 unV ntouch gather hide unhide evalOpd applyOuts int_bne int_beq ite_bool ite_int one_bool cells_bool one_int cells_int one_str cells_str
  one_nilp cells_nilp one_ptr cells_ptr one_nils cells_nils one_sl cells_sl one_nilf cells_nilf one_fn cells_fn one_nili cells_nili one_mp cells_mp one_nilm cells_nilm one_iface
  cells_iface one_vs cells_vs one_vp cells_vp cells_agg Nat.testBit setAt_1 setAt_2 closeds_nil closeds_cons closed_bool closed_int closed_str closed_nilp closed_nils closed_nilm
  closed_nilf closed_nili closed_agg closed_tup closed_vs closed_vp closed_iface closed_fn closeds_cI closeds_cE viewA_closed viewR_closed AV.scal AV.scal0 fillA repA part_bool
  part_int part_str part_nilp part_ptr part_nils part_sl part_nilm part_mp part_nilf part_fn part_nili part_iface part_agg part_vs part_vp viewA_sl1 vaSl_cells wrap_0 wrap_1 wrap_2
  wrap_m1 set_last get_last
/-- What the laws on part ask of the functions. -/
structure SP (A : AProg) (φ : Nat → Nat) : Prop where
  new : Has A (φ 60) (f60 φ)
  is : Has A (φ 80) (f80 φ)
  top : Has A (φ 81) (f81 φ)
  join : Has A (φ 64) (f64 φ)
  same : Has A (φ 62) (f62 φ)
  count : Has A (φ 66) (f66 φ)
  classes : A.ext (φ 68) = some clsExt
  rows : ∀ v u xs ys, IsRows v xs → IsRows u ys → xs.length < 1000000 → (∀ l ∈ xs, l.length < 1000000) → PVal A (φ 70) [v, u] (.bool (decide (xs = ys)))
def rd (N : Int) (x : Int) : Nat := ((x % 65536).tmod N).toNat
theorem cls_len {N : Nat} {r : Nat → Nat} : (cls r N).length ≤ N ∧ ∀ l ∈ cls r N, l.length ≤ N := by
  unfold cls
  refine ⟨?_, fun l hl => ?_⟩
  · rw [List.length_map]; exact Nat.le_trans (List.length_filter_le _ _) (by simp)
  · obtain ⟨i, _, rfl⟩ := List.mem_map.1 hl
    exact gcl_len _ _ _
theorem PS.keep {H H' : Heap} {b bu bs N : Nat} {r : Nat → Nat} {cnt : Int} (p : PS H b bu bs N r cnt) (h : ∀ k, k = b ∨ k = bu ∨ k = bs → H'[k]? = H[k]?) : PS H' b bu bs N r cnt := by
  obtain ⟨up, sz, pa, hr⟩ := p
  exact ⟨up, sz, ⟨(h b (.inl rfl)).trans pa.hb, (h bu (.inr (.inl rfl))).trans pa.hu, (h bs (.inr (.inr rfl))).trans pa.hs, pa.lu, pa.ls, pa.ne⟩, hr⟩
theorem PSJ.keep {H H' : Heap} {b bu bs N : Nat} {ps : List (Nat × Nat)} (p : PSJ H b bu bs N ps) (h : ∀ k, k = b ∨ k = bu ∨ k = bs → H'[k]? = H[k]?) : PSJ H' b bu bs N ps := by
  obtain ⟨r, cnt, p, j⟩ := p
  exact ⟨r, cnt, p.keep h, j⟩
end Go.Ai.G
/- PartCounts. -/
namespace Go.Ai.G
open Go.Ai
set_option maxRecDepth 100000
set_option linter.unusedSimpArgs false
set_option linter.unusedVariables false
variable {A : AProg} {φ : Nat → Nat}
attribute [local simp ↓] getD_z getD_s hid_k hid_o hid_q hid_v PO_nil PO_none PO_grd PD_nil PD_none PD_grd PDO_N PDO_X PDO_call PDO_calli PDO_callv PStep_N PStep_X PStep_call PStep_calli PC_skip PC_lab
  PC_ret PC_exit PC_reg PC_draw PC_seq PC_block PC_loop PC_scope PC_cond thenC_norm thenC_ret thenC_exit blockC_norm blockC_ret blockC_exit loopC_norm loopC_ret loopC_exit endR_ret
  endR_norm
attribute [local simp] gz PDX_free PDX_eq PStep_callv resK_none resK_t resK_tt KNO_val KNO_new KNO_ite KNO_map KXO_some KXO_ite KVA_t KVA_f KG_skip KG_tt KG_ff KG_tf KG_ft KB_true KB_false KNOD_val
  KNOD_new KNOD_ite n_mv n_pick n_bin n_eqB n_eqN n_eqS n_un n_conv n_fadd n_faddV n_fld1 n_fldN n_idx n_idxA n_idxV n_idxAV n_ext n_lenS n_lenS0 n_lenV n_lenT n_lenA n_min n_max
  n_build n_mkfn n_slc n_slc0 n_slcV n_slcA n_load1 n_loadN n_load1V n_loadNV n_alloc n_box n_bsl n_mksl n_nilcP n_nilcV n_nilcI n_nilcF x_store x_clear0 x_clear b_add b_sub b_mul
  b_eql b_neq b_lss b_leq b_gtr b_geq b_and16 unV ntouch gather hide unhide evalOpd applyOuts int_bne int_beq ite_bool ite_int one_bool cells_bool one_int cells_int one_str cells_str
  one_nilp cells_nilp one_ptr cells_ptr one_nils cells_nils one_sl cells_sl one_nilf cells_nilf one_fn cells_fn one_nili cells_nili one_mp cells_mp one_nilm cells_nilm one_iface
  cells_iface one_vs cells_vs one_vp cells_vp cells_agg Nat.testBit setAt_1 setAt_2 closeds_nil closeds_cons closed_bool closed_int closed_str closed_nilp closed_nils closed_nilm
  closed_nilf closed_nili closed_agg closed_tup closed_vs closed_vp closed_iface closed_fn closeds_cI closeds_cE viewA_closed viewR_closed AV.scal AV.scal0 fillA repA part_bool
  part_int part_str part_nilp part_ptr part_nils part_sl part_nilm part_mp part_nilf part_fn part_nili part_iface part_agg part_vs part_vp viewA_sl1 vaSl_cells wrap_0 wrap_1 wrap_2
  wrap_m1 set_last get_last
theorem gcl_ne {r : Nat → Nat} {N i : Nat} (hi : i < N) : gcl r N (r i) ≠ [] := fun h => by
  have : (i : Int) ∈ gcl r N (r i) := (gcl_mem _ _ _ _).2 ⟨i, hi, rfl, rfl⟩
  rw [h] at this; simp at this
theorem cls_rowok (r : Nat → Nat) (N : Nat) : ∀ l ∈ cls r N, l ≠ [] ∧ l.Pairwise (· < ·) ∧ ∃ x : Int, ∀ z, z ∈ l ↔ ∃ i : Nat, i < N ∧ (r i : Int) = x ∧ z = (i : Int) := by
  intro l hl
  unfold cls at hl
  obtain ⟨i, hi, rfl⟩ := List.mem_map.1 hl
  simp only [List.mem_filter, List.mem_range] at hi
  exact ⟨gcl_ne hi.1, gcl_sorted _ _ _, _, fun z => gcl_mem _ _ _ _⟩
theorem cls_flat (r : Nat → Nat) (N : Nat) (x : Int) : x ∈ (cls r N).flatten ↔ 0 ≤ x ∧ x < N := by
  rw [List.mem_flatten]
  constructor
  · rintro ⟨l, hl, hx⟩
    obtain ⟨_, _, y, hy⟩ := cls_rowok r N l hl
    obtain ⟨i, h1, _, rfl⟩ := (hy x).1 hx
    omega
  · rintro ⟨h1, h2⟩
    obtain ⟨j, rfl⟩ : ∃ j : Nat, x = (j : Int) := ⟨x.toNat, by omega⟩
    have hj : j < N := by omega
    obtain ⟨i, h3, h4, h5⟩ := (gcl_mem _ _ _ _).1 (ghd_mem (gcl_ne (r := r) hj))
    refine ⟨gcl r N (r j), ?_, (gcl_mem _ _ _ _).2 ⟨j, hj, rfl, rfl⟩⟩
    unfold cls
    refine List.mem_map.2 ⟨i, ?_, by rw [h4]⟩
    simp only [List.mem_filter, List.mem_range, decide_eq_true_eq]
    exact ⟨h3, by rw [h4, h5]⟩
end Go.Ai.G
/- part.Of. -/
namespace Go.Ai.G
open Go.Ai
set_option maxRecDepth 100000
set_option linter.unusedSimpArgs false
set_option linter.unusedVariables false
variable {A : AProg} {φ : Nat → Nat}
attribute [local simp ↓] getD_z getD_s hid_k hid_o hid_q hid_v PO_nil PO_none PO_grd PD_nil PD_none PD_grd PDO_N PDO_X PDO_call PDO_calli PDO_callv PStep_N PStep_X PStep_call PStep_calli PC_skip PC_lab
  PC_ret PC_exit PC_reg PC_draw PC_seq PC_block PC_loop PC_scope PC_cond thenC_norm thenC_ret thenC_exit blockC_norm blockC_ret blockC_exit loopC_norm loopC_ret loopC_exit endR_ret
  endR_norm
attribute [local simp] gz PDX_free PDX_eq PStep_callv resK_none resK_t resK_tt KNO_val KNO_new KNO_ite KNO_map KXO_some KXO_ite KVA_t KVA_f KG_skip KG_tt KG_ff KG_tf KG_ft KB_true KB_false KNOD_val
  KNOD_new KNOD_ite n_mv n_pick n_bin n_eqB n_eqN n_eqS n_un n_conv n_fadd n_faddV n_fld1 n_fldN n_idx n_idxA n_idxV n_idxAV n_ext n_lenS n_lenS0 n_lenV n_lenT n_lenA n_min n_max
  n_build n_mkfn n_slc n_slc0 n_slcV n_slcA n_load1 n_loadN n_load1V n_loadNV n_alloc n_box n_bsl n_mksl n_nilcP n_nilcV n_nilcI n_nilcF x_store x_clear0 x_clear b_add b_sub b_mul
  b_eql b_neq b_lss b_leq b_gtr b_geq b_and16 unV ntouch gather hide unhide evalOpd applyOuts int_bne int_beq ite_bool ite_int one_bool cells_bool one_int cells_int one_str cells_str
  one_nilp cells_nilp one_ptr cells_ptr one_nils cells_nils one_sl cells_sl one_nilf cells_nilf one_fn cells_fn one_nili cells_nili one_mp cells_mp one_nilm cells_nilm one_iface
  cells_iface one_vs cells_vs one_vp cells_vp cells_agg Nat.testBit setAt_1 setAt_2 closeds_nil closeds_cons closed_bool closed_int closed_str closed_nilp closed_nils closed_nilm
  closed_nilf closed_nili closed_agg closed_tup closed_vs closed_vp closed_iface closed_fn closeds_cI closeds_cE viewA_closed viewR_closed AV.scal AV.scal0 fillA repA part_bool
  part_int part_str part_nilp part_ptr part_nils part_sl part_nilm part_mp part_nilf part_fn part_nili part_iface part_agg part_vs part_vp viewA_sl1 vaSl_cells wrap_0 wrap_1 wrap_2
  wrap_m1 set_last get_last
theorem er72_0 (φ : Nat → Nat) : r72_0 φ = [
  ⟨0, .N .box, [.n 0], none, 0⟩,
  ⟨1, .N .mv, [.c (.nils)], none, 0⟩] := Eq.trans rfl rfl
theorem er72_1 (φ : Nat → Nat) : r72_1 φ = [
  ⟨0, .N (.loadN 2), [.n 1], none, 0⟩,
  ⟨1, .calli true (φ 4), [.l 0], none, 0⟩,
  ⟨2, .N (.un .not), [.l 0], none, 0⟩] := Eq.trans rfl rfl
theorem er72_2 (φ : Nat → Nat) : r72_2 φ = [
  ⟨0, .N .mv, [.c (.nils)], none, 0⟩] := Eq.trans rfl rfl
theorem er72_3 (φ : Nat → Nat) : r72_3 φ = [
  ⟨0, .N (.fadd 0), [.n 1], none, 0⟩,
  ⟨1, .N .load1, [.l 0], none, 0⟩,
  ⟨2, .call (φ 60), [.l 0], none, 0⟩,
  ⟨3, .N .mv, [.l 0], none, 0⟩] := Eq.trans rfl rfl
theorem er72_4 (φ : Nat → Nat) : r72_4 φ = [
  ⟨0, .N (.fadd 1), [.n 1], none, 0⟩,
  ⟨1, .N .load1, [.l 0], none, 0⟩,
  ⟨2, .N .lenS, [.l 0], none, 0⟩,
  ⟨3, .N .mv, [.c (.int .i64 0)], none, 0⟩] := Eq.trans rfl rfl
theorem er72_5 (φ : Nat → Nat) : r72_5 φ = [
  ⟨0, .N (.bin .lss), [.n 8, .n 7], none, 0⟩] := Eq.trans rfl rfl
theorem er72_6 (φ : Nat → Nat) : r72_6 φ = [
  ⟨0, .N (.idx 2), [.n 6, .n 8], none, 0⟩,
  ⟨1, .N (.loadN 2), [.l 0], none, 0⟩,
  ⟨2, .N (.alloc [.int .i64 0, .int .i64 0]), [], none, 0⟩,
  ⟨3, .X (.store 2), [.l 0, .l 1], none, 0⟩] := Eq.trans rfl rfl
theorem er72_7 (φ : Nat → Nat) : r72_7 φ = [
  ⟨0, .N .mv, [.n 3], none, 0⟩,
  ⟨1, .N (.fadd 0), [.n 4], none, 0⟩,
  ⟨2, .N .load1, [.l 0], none, 0⟩,
  ⟨3, .N (.fadd 1), [.n 4], none, 0⟩,
  ⟨4, .N .load1, [.l 0], none, 0⟩,
  ⟨5, .call (φ 64), [.l 4, .l 2, .l 0], none, 0⟩] := Eq.trans rfl rfl
theorem er72_8 (φ : Nat → Nat) : r72_8 φ = [
  ⟨0, .N (.bin .add), [.n 8, .c (.int .i64 1)], none, 0⟩,
  ⟨1, .N .mv, [.l 0], none, 0⟩] := Eq.trans rfl rfl
theorem er72_10 (φ : Nat → Nat) : r72_10 φ = [
  ⟨0, .N .mv, [.n 3], none, 0⟩,
  ⟨1, .call (φ 68), [.l 0], none, 0⟩,
  ⟨2, .N .mv, [.l 0], none, 0⟩] := Eq.trans rfl rfl
/-- The edges' ends, as joins. -/
def npr (es : List Ed) : List (Nat × Nat) := es.map fun e => (e.1.toNat, e.2.toNat)
structure Own3 (N : Nat) (r : Nat → Nat) : Prop where
  lt : ∀ i, i < N → r i < N
  rr : ∀ i, i < N → r (r i) = r i
theorem joined_ex (N : Nat) : ∀ ps : List (Nat × Nat), (∀ p ∈ ps, p.1 < N ∧ p.2 < N) → ∃ r, Joined N ps r ∧ Own3 N r
  | [], _ => ⟨id, joined_nil N, ⟨fun i h => h, fun i _ => rfl⟩⟩
  | (a, c) :: ps, h => by
    obtain ⟨r, hj, hl, hr⟩ := joined_ex N ps fun p hp => h p (List.mem_cons_of_mem _ hp)
    obtain ⟨ha, hc⟩ := h (a, c) (List.mem_cons_self ..)
    have i1 : inN N (a : Int) := ⟨by omega, by omega⟩
    have i2 : inN N (c : Int) := ⟨by omega, by omega⟩
    have ta : ((a : Int)).toNat = a := by omega
    have tc : ((c : Int)).toNat = c := by omega
    by_cases e : r a = r c
    · exact ⟨r, joined_step (ok := false) (cnt := 0) (cnt' := 0) hj ha hc ⟨by symm; apply decide_eq_false; rw [ta, tc]; exact fun h => h.2.2 e, fun _ => ⟨rfl, rfl⟩, fun h => by cases h⟩, hl, hr⟩
    · refine ⟨fun i => if r i = r c then r a else r i, joined_step (ok := true) (cnt := 0) (cnt' := -1) hj ha hc ⟨by symm; apply decide_eq_true; rw [ta, tc]; exact ⟨i1, i2, e⟩, (fun h => by cases h), fun _ => ⟨by omega, r a, r c, e, .inl ⟨by rw [ta], by rw [tc]⟩, rfl⟩⟩, fun i hi => ?_, fun i hi => ?_⟩
      · show (if r i = r c then r a else r i) < N
        split
        · exact hl a ha
        · exact hl i hi
      · show (if r (if r i = r c then r a else r i) = r c then r a else r (if r i = r c then r a else r i)) = if r i = r c then r a else r i
        by_cases e2 : r i = r c
        · rw [if_pos e2, hr a ha, if_neg e]
        · rw [if_neg e2, hr i hi, if_neg e2]
theorem w_Of4 (h : Has A (φ 72) (f72 φ)) (g : SP A φ) (hRc : RightC A (φ 4)) (n : Int) (v : AV) (es : List Ed) (hv : IsE v es) (r0 : Nat → Nat) (hj0 : rightE n es = true → Joined n.toNat (npr es) r0) :
    PVal A (φ 72) [gV n v] (if rightE n es = true then rowsV (cls r0 n.toNat) else .nils) := by
  have hone := hv.one
  have hcl := hv.closed
  have hlen := hv.len
  have cR := (hRc n v es hv).eq
  refine pval_has h rfl ?_
  simp only [l72_9, b72, f72]
  by_cases hR : rightE n es = true
  · have hn := right_len hR
    have he := right_ends hR
    have hj := hj0 hR
    rw [if_pos hR]
    simp [hR] at cR
    obtain ⟨N, rfl⟩ : ∃ N : Nat, n = (N : Int) := ⟨n.toNat, by omega⟩
    have hNN : ((N : Int)).toNat = N := by omega
    rw [hNN] at hj ⊢
    have hclp : clampN (N : Int) = N := by unfold clampN; omega
    simp [-List.getD_eq_getElem?_getD, -Int.ofNat_toNat, -getElem?_pos, er72_0, er72_1, er72_2, er72_3, er72_4, er72_5, er72_6, er72_7, er72_8, er72_10, hone, hcl, cR]
    refine w_PNew g.new (N : Int) _ _ fun H1 p1 k1 l1 => ?_
    simp only [hid_k]
    rw [hclp] at p1
    have p1 : PS H1 3 1 2 N id N := p1
    have l1 : H1.length = 4 := l1
    have e0 : H1[0]? = some (.cells 0 false [.int .i64 N, v]) := by rw [k1 0 (by simp)]; rfl
    simp [-List.getD_eq_getElem?_getD, -Int.ofNat_toNat, -getElem?_pos, er72_0, er72_1, er72_2, er72_3, er72_4, er72_5, er72_6, er72_7, er72_8, er72_10, e0, hlen]
    refine pc_loopI (fun m st => ∃ (i : Nat) (x p9 : AV) (H : Heap), i + m = es.length ∧ PSJ H 3 1 2 N (npr (es.take i)).reverse ∧ 4 ≤ H.length ∧ st = ([gV N v, .ptr 0 0 0, .nils, .ptr 3 0 0, x, .bool false, v, .int .i64 es.length, .int .i64 i, p9], H)) es.length
      ⟨0, _, _, H1, by simp, ⟨id, _, p1, joined_nil N, by rw [roots_id]⟩, by omega, rfl⟩ ?_
    rintro m st ⟨i, x, p9, H, hi, hp, hHl, rfl⟩
    by_cases hlt : i < es.length
    · have hlt' : (i : Int) < es.length := by omega
      obtain ⟨i1, z1, z2, le1, t1⟩ := hv.at hlt
      have hw1 := wrap1 hlt (by omega)
      have hts : es.take (i + 1) = es.take i ++ [es[i]] := List.take_succ_eq_append_getElem hlt
      have hends := he _ (List.getElem_mem hlt)
      obtain ⟨a, ha⟩ : ∃ a : Nat, es[i].1 = (a : Int) := ⟨es[i].1.toNat, by omega⟩
      obtain ⟨c, hc⟩ : ∃ c : Nat, es[i].2 = (c : Int) := ⟨es[i].2.toNat, by omega⟩
      have hps : (npr (es.take (i + 1))).reverse = (a, c) :: (npr (es.take i)).reverse := by
        rw [hts]; unfold npr; rw [List.map_append, List.reverse_append, List.map_cons, ha, hc]
        simp
      rw [ha] at z1 t1 hends
      rw [hc] at z2 t1 hends
      simp [-List.getD_eq_getElem?_getD, -Int.ofNat_toNat, -getElem?_pos, er72_0, er72_1, er72_2, er72_3, er72_4, er72_5, er72_6, er72_7, er72_8, er72_10, hlt', hlt, i1, z1, z2, le1, t1, get_at, get_at0, set_at, set_at0]
      have hp' : PSJ (H ++ [.cells 0 false [.int .i64 a, .int .i64 c]]) 3 1 2 N (npr (es.take i)).reverse := hp.keep fun k hk => List.getElem?_append_left (by omega)
      refine w_JoinJ g.join g.is g.top hp' (by omega) (a := a) (c := c) (by omega) (by omega) _ fun H' ok hp2 hk hl => ?_
      simp only [hid_k]
      simp [-List.getD_eq_getElem?_getD, -Int.ofNat_toNat, -getElem?_pos, er72_0, er72_1, er72_2, er72_3, er72_4, er72_5, er72_6, er72_7, er72_8, er72_10, hw1]
      exact next_mk (m - 1) (by omega) ⟨i + 1, _, _, H', by omega, by rw [hps]; exact hp2, by rw [hl]; simp; omega, rfl⟩
    · have hlt' : ¬ (i : Int) < es.length := by omega
      rw [List.take_of_length_le (by omega)] at hp
      obtain ⟨r, cnt, pp, jp, _⟩ := hp
      have hcls : cls r N = cls r0 N := cls_rel (joined_rel jp hj (fun a b hm => .of (List.mem_reverse.1 hm)) (fun a b hm => .of (List.mem_reverse.2 hm)))
      have hclo := (isRows_v (cls r0 N)).closed
      simp [-List.getD_eq_getElem?_getD, -Int.ofNat_toNat, -getElem?_pos, er72_0, er72_1, er72_2, er72_3, er72_4, er72_5, er72_6, er72_7, er72_8, er72_10, hlt', hlt]
      refine w_Classes g.classes pp (by omega) _ fun H3 pp3 k3' l3 => ?_
      simp only [hid_k]
      rw [hcls]
      simp [-List.getD_eq_getElem?_getD, -Int.ofNat_toNat, -getElem?_pos, er72_0, er72_1, er72_2, er72_3, er72_4, er72_5, er72_6, er72_7, er72_8, er72_10, hclo, resK, resVs, resV, pack]
  · simp only [Bool.not_eq_true] at hR
    rw [if_neg (by simp [hR])]
    simp [hR] at cR
    simp [-List.getD_eq_getElem?_getD, -Int.ofNat_toNat, -getElem?_pos, er72_0, er72_1, er72_2, er72_3, er72_4, er72_5, er72_6, er72_7, er72_8, er72_10, hone, hcl, cR, resK, resVs, resV, pack]
end Go.Ai.G
/- PartBridge. -/
namespace Go.Ai.G
open Go.Ai
set_option maxRecDepth 100000
set_option linter.unusedSimpArgs false
set_option linter.unusedVariables false
variable {A : AProg} {φ : Nat → Nat}
attribute [local simp ↓] getD_z getD_s hid_k hid_o hid_q hid_v PO_nil PO_none PO_grd PD_nil PD_none PD_grd PDO_N PDO_X PDO_call PDO_calli PDO_callv PStep_N PStep_X PStep_call PStep_calli PC_skip PC_lab
  PC_ret PC_exit PC_reg PC_draw PC_seq PC_block PC_loop PC_scope PC_cond thenC_norm thenC_ret thenC_exit blockC_norm blockC_ret blockC_exit loopC_norm loopC_ret loopC_exit endR_ret
  endR_norm
attribute [local simp] gz PDX_free PDX_eq PStep_callv resK_none resK_t resK_tt KNO_val KNO_new KNO_ite KNO_map KXO_some KXO_ite KVA_t KVA_f KG_skip KG_tt KG_ff KG_tf KG_ft KB_true KB_false KNOD_val
  KNOD_new KNOD_ite n_mv n_pick n_bin n_eqB n_eqN n_eqS n_un n_conv n_fadd n_faddV n_fld1 n_fldN n_idx n_idxA n_idxV n_idxAV n_ext n_lenS n_lenS0 n_lenV n_lenT n_lenA n_min n_max
  n_build n_mkfn n_slc n_slc0 n_slcV n_slcA n_load1 n_loadN n_load1V n_loadNV n_alloc n_box n_bsl n_mksl n_nilcP n_nilcV n_nilcI n_nilcF x_store x_clear0 x_clear b_add b_sub b_mul
  b_eql b_neq b_lss b_leq b_gtr b_geq b_and16 unV ntouch gather hide unhide evalOpd applyOuts int_bne int_beq ite_bool ite_int one_bool cells_bool one_int cells_int one_str cells_str
  one_nilp cells_nilp one_ptr cells_ptr one_nils cells_nils one_sl cells_sl one_nilf cells_nilf one_fn cells_fn one_nili cells_nili one_mp cells_mp one_nilm cells_nilm one_iface
  cells_iface one_vs cells_vs one_vp cells_vp cells_agg Nat.testBit setAt_1 setAt_2 closeds_nil closeds_cons closed_bool closed_int closed_str closed_nilp closed_nils closed_nilm
  closed_nilf closed_nili closed_agg closed_tup closed_vs closed_vp closed_iface closed_fn closeds_cI closeds_cE viewA_closed viewR_closed AV.scal AV.scal0 fillA repA part_bool
  part_int part_str part_nilp part_ptr part_nils part_sl part_nilm part_mp part_nilf part_fn part_nili part_iface part_agg part_vs part_vp viewA_sl1 vaSl_cells wrap_0 wrap_1 wrap_2
  wrap_m1 set_last get_last
theorem er79_0 (φ : Nat → Nat) : r79_0 φ = [
  ⟨0, .N .box, [.n 2], none, 0⟩,
  ⟨1, .N .mv, [.c (.bool false)], none, 0⟩] := Eq.trans rfl rfl
theorem er79_1 (φ : Nat → Nat) : r79_1 φ = [
  ⟨0, .calli true (φ 59), [], none, 0⟩,
  ⟨1, .N .mv, [.l 0], none, 0⟩] := Eq.trans rfl rfl
theorem er79_2 (φ : Nat → Nat) : r79_2 φ = [
  ⟨0, .N .mv, [.n 0], none, 0⟩,
  ⟨1, .N .mv, [.n 1], none, 0⟩,
  ⟨2, .calli false (φ 22), [.l 1, .l 0, .c (.int .i64 50)], none, 0⟩,
  ⟨3, .N (.alloc [.int .i64 0, .nils]), [], none, 0⟩,
  ⟨4, .X (.store 2), [.l 0, .l 1], none, 0⟩] := Eq.trans rfl rfl
theorem er79_3 (φ : Nat → Nat) : r79_3 φ = [
  ⟨0, .N (.fadd 0), [.n 6], none, 0⟩,
  ⟨1, .N .load1, [.l 0], none, 0⟩,
  ⟨2, .N (.bin .lss), [.l 0, .c (.int .i64 2)], none, 0⟩] := Eq.trans rfl rfl
theorem er79_4 (φ : Nat → Nat) : r79_4 φ = [
  ⟨0, .N .mv, [.n 5], none, 0⟩,
  ⟨1, .N .mv, [.l 0], none, 0⟩] := Eq.trans rfl rfl
theorem er79_5 (φ : Nat → Nat) : r79_5 φ = [
  ⟨0, .N (.idxA 2 1), [.n 3, .c (.int .i64 0)], none, 0⟩,
  ⟨1, .N .load1, [.l 0], none, 0⟩,
  ⟨2, .N (.bin .and), [.l 0, .c (.int .i64 65535)], none, 0⟩,
  ⟨3, .N (.fadd 0), [.n 6], none, 0⟩,
  ⟨4, .N .load1, [.l 0], none, 0⟩,
  ⟨5, .N (.bin .rem), [.l 2, .l 0], none, 0⟩,
  ⟨6, .N .mv, [.l 0], none, 0⟩] := Eq.trans rfl rfl
theorem er79_6 (φ : Nat → Nat) : r79_6 φ = [
  ⟨0, .N .mv, [.n 7], none, 0⟩,
  ⟨1, .N (.bin .add), [.l 0, .c (.int .i64 1)], none, 1⟩,
  ⟨2, .N (.idxA 2 1), [.n 3, .c (.int .i64 1)], none, 0⟩,
  ⟨3, .N .load1, [.l 0], none, 4⟩,
  ⟨4, .N (.bin .and), [.l 0, .c (.int .i64 65535)], none, 12⟩,
  ⟨5, .N (.fadd 0), [.n 6], none, 0⟩,
  ⟨6, .N .load1, [.l 0], none, 32⟩,
  ⟨7, .N (.bin .sub), [.l 0, .c (.int .i64 1)], none, 96⟩,
  ⟨8, .N (.bin .rem), [.l 3, .l 0], none, 252⟩,
  ⟨9, .N (.bin .add), [.l 7, .l 0], none, 511⟩,
  ⟨10, .N (.fadd 0), [.n 6], none, 0⟩,
  ⟨11, .N .load1, [.l 0], none, 1024⟩,
  ⟨12, .N (.bin .rem), [.l 2, .l 0], none, 4095⟩,
  ⟨13, .N .mv, [.l 0], none, 8191⟩] := Eq.trans rfl rfl
theorem er79_7 (φ : Nat → Nat) : r79_7 φ = [
  ⟨0, .N (.loadN 2), [.n 6], none, 0⟩,
  ⟨1, .N .mv, [.n 7], none, 0⟩,
  ⟨2, .N .mv, [.n 8], none, 0⟩,
  ⟨3, .calli false (φ 15), [.l 2, .l 1, .l 0], none, 0⟩,
  ⟨4, .N .mv, [.l 0], none, 0⟩,
  ⟨5, .N (.ext 0), [.l 0], none, 0⟩,
  ⟨6, .N (.ext 1), [.l 1], none, 0⟩,
  ⟨7, .N (.alloc [.int .i64 0, .nils]), [], none, 0⟩,
  ⟨8, .X (.store 2), [.l 0, .l 2], none, 0⟩,
  ⟨9, .N .mv, [.l 2], none, 0⟩] := Eq.trans rfl rfl
theorem er79_8 (φ : Nat → Nat) : r79_8 φ = [
  ⟨0, .N .mv, [.n 10], none, 0⟩,
  ⟨1, .N (.bin .neq), [.l 0, .c (.int .i64 0)], none, 0⟩] := Eq.trans rfl rfl
theorem er79_9 (φ : Nat → Nat) : r79_9 φ = [
  ⟨0, .N .mv, [.c (.bool false)], none, 0⟩] := Eq.trans rfl rfl
theorem er79_10 (φ : Nat → Nat) : r79_10 φ = [
  ⟨0, .N (.loadN 2), [.n 6], none, 0⟩,
  ⟨1, .calli false (φ 72), [.l 0], none, 0⟩,
  ⟨2, .N .mv, [.l 0], none, 0⟩] := Eq.trans rfl rfl
theorem er79_11 (φ : Nat → Nat) : r79_11 φ = [
  ⟨0, .N (.loadN 2), [.n 9], none, 0⟩,
  ⟨1, .calli false (φ 72), [.l 0], none, 0⟩,
  ⟨2, .N .mv, [.l 0], none, 0⟩] := Eq.trans rfl rfl
theorem er79_12 (φ : Nat → Nat) : r79_12 φ = [
  ⟨0, .N .mv, [.c (.bool false)], none, 0⟩] := Eq.trans rfl rfl
theorem er79_13 (φ : Nat → Nat) : r79_13 φ = [
  ⟨0, .N .mv, [.c (.int .i64 0)], none, 0⟩] := Eq.trans rfl rfl
theorem er79_14 (φ : Nat → Nat) : r79_14 φ = [
  ⟨0, .N .mv, [.n 14], none, 0⟩,
  ⟨1, .N .mv, [.n 11], none, 0⟩,
  ⟨2, .N .lenS, [.l 0], none, 0⟩,
  ⟨3, .N (.bin .lss), [.l 2, .l 0], none, 0⟩] := Eq.trans rfl rfl
theorem er79_15 (φ : Nat → Nat) : r79_15 φ = [
  ⟨0, .N .mv, [.n 13], none, 0⟩,
  ⟨1, .N .mv, [.l 0], none, 0⟩,
  ⟨2, .N .mv, [.n 11], some (.l 0, false), 0⟩,
  ⟨3, .N .mv, [.n 14], some (.l 1, false), 0⟩,
  ⟨4, .N (.idx 1), [.l 1, .l 0], some (.l 2, false), 0⟩,
  ⟨5, .N .load1, [.l 0], some (.l 3, false), 0⟩,
  ⟨6, .N .mv, [.n 7], some (.l 4, false), 0⟩,
  ⟨7, .calli true (φ 25), [.l 1, .l 0], some (.l 5, false), 0⟩,
  ⟨8, .N .mv, [.l 0], some (.l 6, false), 0⟩,
  ⟨9, .N .mv, [.n 11], some (.l 0, true), 0⟩,
  ⟨10, .N .mv, [.n 14], some (.l 1, true), 0⟩,
  ⟨11, .N (.idx 1), [.l 1, .l 0], some (.l 2, true), 0⟩,
  ⟨12, .N .load1, [.l 0], some (.l 3, true), 0⟩,
  ⟨13, .N .mv, [.n 8], some (.l 4, true), 0⟩,
  ⟨14, .calli true (φ 25), [.l 1, .l 0], some (.l 5, true), 0⟩,
  ⟨15, .N .pick, [.l 6, .l 0, .c (.bool false)], some (.l 13, false), 0⟩,
  ⟨16, .N .pick, [.l 14, .c (.bool true), .l 0], none, 0⟩,
  ⟨17, .N .mv, [.l 0], none, 0⟩] := Eq.trans rfl rfl
theorem er79_16 (φ : Nat → Nat) : r79_16 φ = [
  ⟨0, .N .mv, [.n 14], none, 0⟩,
  ⟨1, .N (.bin .add), [.l 0, .c (.int .i64 1)], none, 0⟩,
  ⟨2, .N .mv, [.l 0], none, 0⟩] := Eq.trans rfl rfl
theorem er79_18 (φ : Nat → Nat) : r79_18 φ = [
  ⟨0, .N .mv, [.n 5], none, 0⟩,
  ⟨1, .N .mv, [.l 0], none, 0⟩,
  ⟨2, .N .mv, [.n 13], some (.l 0, true), 0⟩,
  ⟨3, .N .mv, [.l 0], some (.l 1, true), 0⟩,
  ⟨4, .N .mv, [.n 12], some (.l 0, true), 0⟩,
  ⟨5, .N .lenS, [.l 0], some (.l 1, true), 0⟩,
  ⟨6, .N .mv, [.n 11], some (.l 2, true), 0⟩,
  ⟨7, .N .lenS, [.l 0], some (.l 3, true), 0⟩,
  ⟨8, .N (.bin .eql), [.l 2, .l 0], some (.l 4, true), 0⟩,
  ⟨9, .N .pick, [.l 5, .l 0, .c (.bool false)], some (.l 7, true), 0⟩,
  ⟨10, .N .mv, [.l 0], some (.l 8, true), 0⟩,
  ⟨11, .N .mv, [.n 13], some (.l 0, false), 0⟩,
  ⟨12, .N (.un .not), [.l 0], some (.l 1, false), 0⟩,
  ⟨13, .N .mv, [.l 0], some (.l 2, false), 0⟩,
  ⟨14, .N .mv, [.n 12], some (.l 0, true), 0⟩,
  ⟨15, .N .lenS, [.l 0], some (.l 1, true), 0⟩,
  ⟨16, .N .mv, [.n 11], some (.l 2, true), 0⟩,
  ⟨17, .N .lenS, [.l 0], some (.l 3, true), 0⟩,
  ⟨18, .N (.bin .sub), [.l 0, .c (.int .i64 1)], some (.l 4, true), 0⟩,
  ⟨19, .N (.bin .eql), [.l 3, .l 0], some (.l 5, true), 0⟩,
  ⟨20, .N .pick, [.l 6, .l 0, .c (.bool false)], some (.l 9, false), 0⟩,
  ⟨21, .N .pick, [.l 10, .c (.bool true), .l 0], some (.l 19, true), 0⟩,
  ⟨22, .N .pick, [.l 20, .l 0, .c (.bool false)], none, 0⟩,
  ⟨23, .N .mv, [.l 0], none, 0⟩] := Eq.trans rfl rfl
structure SB (A : AProg) (φ : Nat → Nat) : Prop where
  p : SP A φ
  of : Has A (φ 72) (f72 φ)
  right : RightC A (φ 4)
  any : ∀ n most v l, IsE v l → 0 ≤ most → most ≤ 1000 → PVal A (φ 22) [.int .i64 n, v, .int .i64 most] (gV (anyN n most) (rE (anyE n most l)))
  inn : ∀ v xs x, IsI v xs → xs.length < 1000000000000 → PVal A (φ 25) [v, .int .i64 x] (.bool (decide (x ∈ xs)))
structure SB2 (A : AProg) (φ : Nat → Nat) : Prop where
  b : Go.Ai.G.SB A φ
  add : ∀ n a b v es, IsE v es → PVal A (φ 15) [gV n v, .int .i64 a, .int .i64 b] (gR (addE n es a b))
theorem joined_swap {N : Nat} {ps qs : List (Nat × Nat)} {r : Nat → Nat} (h : Joined N ps r) (h1 : ∀ a b, (a, b) ∈ ps → Cn qs a b) (h2 : ∀ a b, (a, b) ∈ qs → Cn ps a b) : Joined N qs r :=
  ⟨fun i j hc => h.1 i j (hc.mono h2), fun i j hi hj e => (h.2 i j hi hj e).mono h1⟩
theorem npr_lt {N : Nat} {es : List Ed} (h : rightE (N : Int) es = true) : ∀ p ∈ npr es, p.1 < N ∧ p.2 < N := by
  intro p hp
  obtain ⟨e, he, rfl⟩ := List.mem_map.1 hp
  have := right_ends h e he
  simp only; omega
/-- One edge more: the classes' own numbers, and how many there are. -/
theorem bridge_law {N : Nat} {E : List Ed} (hR : rightE (N : Int) E = true) {a b : Nat} (ha : a < N) (hb : b < N) (hne : a ≠ b) {r : Nat → Nat} (hj : Joined N (npr E) r) (ho : Own3 N r) :
    ∃ r', Joined N (npr (setE (E ++ [((a : Int), (b : Int))]))) r' ∧ ((cls r' N).length : Int) = if r a = r b then ((cls r N).length : Int) else ((cls r N).length : Int) - 1 := by
  have he := right_ends hR
  have hmem : ∀ x : Ed, x ∈ setE (E ++ [((a : Int), (b : Int))]) ↔ x ∈ E ∨ x = (min (a : Int) b, max (a : Int) b) := fun x => by
    rw [setE_mem, normsE_mem]
    constructor
    · rintro ⟨y, hy, hyn, rfl⟩
      rcases List.mem_append.1 hy with hy | hy
      · have := he y hy
        left; rw [Int.min_eq_left (by omega), Int.max_eq_right (by omega)]; exact hy
      · simp at hy; subst hy; exact .inr rfl
    · rintro (hx | rfl)
      · have := he x hx
        exact ⟨x, List.mem_append_left _ hx, by omega, by rw [Int.min_eq_left (by omega), Int.max_eq_right (by omega)]⟩
      · exact ⟨_, List.mem_append_right _ (List.mem_cons_self ..), by simp only; omega, rfl⟩
  -- the ends' pair, either way
  have hpair : ∀ {qs : List (Nat × Nat)}, Cn qs a b → Cn qs (min (a : Int) b).toNat (max (a : Int) b).toNat := fun {qs} hc => by
    rcases Nat.lt_or_gt_of_ne hne with h | h
    · rw [Int.min_eq_left (by omega), Int.max_eq_right (by omega)]; simpa using hc
    · rw [Int.min_eq_right (by omega), Int.max_eq_left (by omega)]; simpa using hc.symm
  have hpair2 : ∀ {qs : List (Nat × Nat)}, Cn qs (min (a : Int) b).toNat (max (a : Int) b).toNat → Cn qs a b := fun {qs} hc => by
    rcases Nat.lt_or_gt_of_ne hne with h | h
    · rw [Int.min_eq_left (by omega), Int.max_eq_right (by omega)] at hc; simpa using hc
    · rw [Int.min_eq_right (by omega), Int.max_eq_left (by omega)] at hc; simpa using hc.symm
  have hto : ∀ x y, (x, y) ∈ npr (setE (E ++ [((a : Int), (b : Int))])) → Cn ((a, b) :: npr E) x y := fun x y hm => by
    obtain ⟨e, h1, h2⟩ := List.mem_map.1 hm
    cases h2
    rcases (hmem e).1 h1 with h3 | rfl
    · exact .of (List.mem_cons_of_mem _ (List.mem_map.2 ⟨e, h3, rfl⟩))
    · exact hpair (.of (List.mem_cons_self ..))
  have hfrom : ∀ x y, (x, y) ∈ (a, b) :: npr E → Cn (npr (setE (E ++ [((a : Int), (b : Int))]))) x y := fun x y hm => by
    rcases List.mem_cons.1 hm with h1 | h1
    · cases h1
      exact hpair2 (.of (List.mem_map.2 ⟨_, (hmem _).2 (.inr rfl), rfl⟩))
    · obtain ⟨e, h3, h4⟩ := List.mem_map.1 h1
      cases h4
      exact .of (List.mem_map.2 ⟨e, (hmem e).2 (.inl h3), rfl⟩)
  have i1 : inN N (a : Int) := ⟨by omega, by omega⟩
  have i2 : inN N (b : Int) := ⟨by omega, by omega⟩
  have ta : ((a : Int)).toNat = a := by omega
  have tb : ((b : Int)).toNat = b := by omega
  by_cases e : r a = r b
  · have j : JoinR N r r (a : Int) (b : Int) false 0 0 := ⟨by symm; apply decide_eq_false; rw [ta, tb]; exact fun h => h.2.2 e, fun _ => ⟨rfl, rfl⟩, fun h => by cases h⟩
    exact ⟨r, joined_swap (joined_step hj ha hb j) hfrom hto, by rw [if_pos e]⟩
  · have j : JoinR N r (fun i => if r i = r b then r a else r i) (a : Int) (b : Int) true (rootsN N r : Nat) ((rootsN N r : Nat) - 1 : Int) :=
      ⟨by symm; apply decide_eq_true; rw [ta, tb]; exact ⟨i1, i2, e⟩, (fun h => by cases h), fun _ => ⟨rfl, r a, r b, e, .inl ⟨by rw [ta], by rw [tb]⟩, rfl⟩⟩
    have h1 := roots_step ho.lt ho.rr j rfl
    have o1 : ∀ i, i < N → (if r i = r b then r a else r i) < N := fun i hi => by
      split
      · exact ho.lt a ha
      · exact ho.lt i hi
    have o2 : ∀ i, i < N → (if r (if r i = r b then r a else r i) = r b then r a else r (if r i = r b then r a else r i)) = if r i = r b then r a else r i := fun i hi => by
      by_cases e2 : r i = r b
      · rw [if_pos e2, ho.rr a ha, if_neg e]
      · rw [if_neg e2, ho.rr i hi, if_neg e2]
    rw [roots_cls o1 o2, roots_cls ho.lt ho.rr] at h1
    exact ⟨_, joined_swap (joined_step hj ha hb j) hfrom hto, by rw [if_neg e]; omega⟩
theorem cls_both {N : Nat} {r : Nat → Nat} {a b : Nat} (ha : a < N) (hb : b < N) : ((cls r N).any fun l => decide ((a : Int) ∈ l) && decide ((b : Int) ∈ l)) = decide (r a = r b) := by
  rw [Bool.eq_iff_iff, List.any_eq_true]
  simp only [Bool.and_eq_true, decide_eq_true_eq]
  constructor
  · rintro ⟨l, hl, h1, h2⟩
    obtain ⟨_, _, x, hx⟩ := cls_rowok r N l hl
    obtain ⟨i, _, h3, h4⟩ := (hx _).1 h1
    obtain ⟨j, _, h5, h6⟩ := (hx _).1 h2
    have : a = i := by omega
    have : b = j := by omega
    subst_vars; omega
  · intro e
    have : (a : Int) ∈ (cls r N).flatten := (cls_flat r N _).2 ⟨by omega, by omega⟩
    obtain ⟨l, hl, h1⟩ := List.mem_flatten.1 this
    obtain ⟨_, _, x, hx⟩ := cls_rowok r N l hl
    obtain ⟨i, _, h3, h4⟩ := (hx _).1 h1
    have hai : a = i := by omega
    subst hai
    exact ⟨l, hl, h1, (hx _).2 ⟨b, hb, by rw [← e]; exact h3, rfl⟩⟩
set_option maxHeartbeats 4000000 in
theorem w_PartBridge (h : Has A (φ 79) (f79 φ)) (hS : PVal A (φ 59) [] (.bool true)) (g : SB2 A φ) (n : Int) (v : AV) (l : List Ed) (hv : IsE v l) (a0 b0 : Int) :
    PVal A (φ 79) [.int .i64 n, v, .agg [.int .i64 a0, .int .i64 b0]] (.bool true) := by
  have hsh := hS.eq
  have hone := hv.one
  have hcl := hv.closed
  have c0 := (g.b.any n 50 v l hv (by omega) (by omega)).eq
  have hR := any_right n l (most := 50) (by omega) (by omega)
  have hEl := anyE_len n 50 l
  have hNr := anyN_range (n := n) (most := 50) (by omega)
  generalize anyN n 50 = N at *
  generalize anyE n 50 l = E at *
  obtain ⟨N, rfl⟩ : ∃ M : Nat, N = (M : Int) := ⟨N.toNat, by omega⟩
  have iE := isE_r E
  refine pval_has h rfl ?_
  simp only [l79_17, b79, f79]
  by_cases h2 : (N : Int) < 2
  · have h2' : N < 2 := by omega
    generalize rE E = U at *
    simp [-List.getD_eq_getElem?_getD, -Int.ofNat_toNat, -getElem?_pos, er79_0, er79_1, er79_2, er79_3, er79_4, er79_5, er79_6, er79_7, er79_8, er79_9, er79_10, er79_11, er79_12, er79_13, er79_14, er79_15, er79_16, er79_18, hsh, hcl, c0, iE.closed, iE.one, iE.cells, h2, h2', resK, resVs, resV, pack]
  · have h2' : ¬ N < 2 := by omega
    have hN0 : (N : Int) ≠ 0 := by omega
    have hN1 : (N : Int) - 1 ≠ 0 := by omega
    have tr : ∀ x M : Int, 0 < M → 0 ≤ (x % 65536).tmod M ∧ (x % 65536).tmod M < M := fun x M hM => by
      rw [Int.tmod_eq_emod_of_nonneg (Int.emod_nonneg _ (by decide))]
      exact ⟨Int.emod_nonneg _ (by omega), Int.emod_lt_of_pos _ hM⟩
    have r1 : binV .rem (.int .i64 (a0 % 65536)) (.int .i64 (N : Int)) = some (.int .i64 ((a0 % 65536).tmod N)) := b_rem _ _ _ hN0
    have r2 : binV .rem (.int .i64 (b0 % 65536)) (.int .i64 ((N : Int) - 1)) = some (.int .i64 ((b0 % 65536).tmod ((N : Int) - 1))) := b_rem _ _ _ hN1
    have ra := tr a0 N (by omega)
    have rt := tr b0 ((N : Int) - 1) (by omega)
    generalize (a0 % 65536).tmod N = x at *
    generalize (b0 % 65536).tmod ((N : Int) - 1) = t at *
    have r3 : binV .rem (.int .i64 (x + 1 + t)) (.int .i64 (N : Int)) = some (.int .i64 ((x + 1 + t).tmod N)) := b_rem _ _ _ hN0
    obtain ⟨rb1, rb2, hab⟩ := next_ne ra rt
    generalize (x + 1 + t).tmod N = y at *
    have w1 : IntKind.i64.wrap (x + 1) = x + 1 := wrap_in (by omega) (by omega)
    have w2 : IntKind.i64.wrap (x + 1 + t) = x + 1 + t := wrap_in (by omega) (by omega)
    have w3 : IntKind.i64.wrap ((N : Int) - 1) = (N : Int) - 1 := wrap_in (by omega) (by omega)
    obtain ⟨a, rfl⟩ : ∃ a : Nat, x = (a : Int) := ⟨x.toNat, by omega⟩
    obtain ⟨b, rfl⟩ : ∃ b : Nat, y = (b : Int) := ⟨y.toNat, by omega⟩
    have hNN : ((N : Int)).toNat = N := by omega
    obtain ⟨r, hj, ho⟩ := joined_ex N (npr E) (npr_lt hR)
    obtain ⟨r', hj', hlen'⟩ := bridge_law hR (a := a) (b := b) (by omega) (by omega) (by omega) hj ho
    have hends := right_ends hR
    have hok : (E ++ [((a : Int), (b : Int))]).all (okEnds N) = true := by
      rw [List.all_eq_true]
      intro y hy
      rcases List.mem_append.1 hy with hy | hy
      · have := hends y hy
        rw [okEnds, decide_eq_true (by omega), decide_eq_true (by omega)]; rfl
      · simp only [List.mem_cons, List.not_mem_nil, or_false] at hy
        subst hy; rw [okEnds, decide_eq_true (by simp only; omega), decide_eq_true (by simp only; omega)]; rfl
    have hle := setE_le (E ++ [((a : Int), (b : Int))])
    have hno := normalE_ok (n := (N : Int)) (by omega) (by omega) hok (by simp at hle; omega)
    have hRX : rightE (N : Int) (setE (E ++ [((a : Int), (b : Int))])) = true := by
      have := @normalE_right (N : Int) (E ++ [((a : Int), (b : Int))])
      rw [hno] at this
      exact this rfl
    have cA := (g.add N a b _ E iE).eq
    have hadd : addE N E a b = ((N : Int), setE (E ++ [((a : Int), (b : Int))]), 0) := by
      rw [addE_def, if_neg (by simp [hR]), if_neg (by omega), if_neg (by omega), hno]
    rw [hadd] at cA
    simp only [gR] at cA
    generalize setE (E ++ [((a : Int), (b : Int))]) = X at *
    have iX := isE_r X
    have cO1 := (w_Of4 g.b.of g.b.p g.b.right N _ E iE r (fun _ => by rw [hNN]; exact hj)).eq
    have cO2 := (w_Of4 g.b.of g.b.p g.b.right N _ X iX r' (fun _ => by rw [hNN]; exact hj')).eq
    rw [if_pos hR, hNN] at cO1
    rw [if_pos hRX, hNN] at cO2
    have hboth := cls_both (r := r) (show a < N by omega) (show b < N by omega)
    obtain ⟨y1, y2⟩ := cls_len (N := N) (r := r)
    obtain ⟨y3, _⟩ := cls_len (N := N) (r := r')
    generalize cls r N = xs at *
    generalize cls r' N = ys at *
    have hX := isRows_v xs
    have hY := isRows_v ys
    have lX := hX.len
    have lY := hY.len
    have aX := fun (i : Nat) (h : i < xs.length) => hX.at h
    have oX := hX.one
    have oY := hY.one
    generalize rowsV xs = R at *
    generalize rowsV ys = S at *
    generalize rE E = U at *
    generalize rE X = V at *
    simp [-List.getD_eq_getElem?_getD, -Int.ofNat_toNat, -getElem?_pos, er79_0, er79_1, er79_2, er79_3, er79_4, er79_5, er79_6, er79_7, er79_8, er79_9, er79_10, er79_11, er79_12, er79_13, er79_14, er79_15, er79_16, er79_18, hsh, hcl, c0, iE.closed, iE.one, iE.cells, h2, h2', r1, r2, r3, w1, w2, w3, cA, iX.closed, iX.one, iX.cells, cO1, cO2]
    refine pc_loopI (fun m st => ∃ (i : Nat) (p17 : AV), i + m = xs.length ∧
      st = ([.int .i64 n, v, .agg [.int .i64 a0, .int .i64 b0], .ptr 0 0 0, .bool false, .bool true, .ptr 1 0 0, .int .i64 a, .int .i64 b, .ptr 2 0 0, .int .i64 0, R, S, .bool ((xs.take i).any fun l => decide ((a : Int) ∈ l) && decide ((b : Int) ∈ l)), .int .i64 i, .bool false, .bool false, p17],
        [.cells 0 false [.int .i64 a0, .int .i64 b0], .cells 0 false [.int .i64 N, U], .cells 0 false [.int .i64 N, V]])) xs.length ⟨0, _, by simp, by simp; rfl⟩ ?_
    rintro m st ⟨i, p17, hi, rfl⟩
    by_cases hlt : i < xs.length
    · have hlt' : (i : Int) < xs.length := by omega
      obtain ⟨c1, x1, d1, d2, d3⟩ := aX i hlt
      have hw1 := wrap1 hlt (by omega)
      have hrl := y2 _ (List.getElem_mem hlt)
      have hts : xs.take (i + 1) = xs.take i ++ [xs[i]] := List.take_succ_eq_append_getElem hlt
      have cI1 := (g.b.inn x1 xs[i] a d3 (by omega)).eq
      have cI2 := (g.b.inn x1 xs[i] b d3 (by omega)).eq
      have k1 := d3.closed
      have hany : ((xs.take (i + 1)).any fun l => decide ((a : Int) ∈ l) && decide ((b : Int) ∈ l)) = (((xs.take i).any fun l => decide ((a : Int) ∈ l) && decide ((b : Int) ∈ l)) || (decide ((a : Int) ∈ xs[i]) && decide ((b : Int) ∈ xs[i]))) := by
        rw [hts, List.any_append, List.any_cons, List.any_nil, Bool.or_false]
      generalize ((xs.take i).any fun l => decide ((a : Int) ∈ l) && decide ((b : Int) ∈ l)) = q at *
      cases q with
      | true =>
        simp [-List.getD_eq_getElem?_getD, -Int.ofNat_toNat, -getElem?_pos, er79_0, er79_1, er79_2, er79_3, er79_4, er79_5, er79_6, er79_7, er79_8, er79_9, er79_10, er79_11, er79_12, er79_13, er79_14, er79_15, er79_16, er79_18, lX, hlt', hlt, hw1]
        exact next_mk (m - 1) (by omega) ⟨i + 1, _, by omega, by rw [hany]; rfl⟩
      | false =>
        rw [Bool.false_or] at hany
        cases qa : decide ((a : Int) ∈ xs[i]) with
        | false =>
          rw [qa] at cI1 hany
          simp [-List.getD_eq_getElem?_getD, -Int.ofNat_toNat, -getElem?_pos, er79_0, er79_1, er79_2, er79_3, er79_4, er79_5, er79_6, er79_7, er79_8, er79_9, er79_10, er79_11, er79_12, er79_13, er79_14, er79_15, er79_16, er79_18, lX, hlt', hlt, hw1, d1, d2, cI1, k1]
          exact next_mk (m - 1) (by omega) ⟨i + 1, _, by omega, by rw [hany]; rfl⟩
        | true =>
          rw [qa] at cI1 hany
          cases qb : decide ((b : Int) ∈ xs[i]) with
          | false =>
            rw [qb] at cI2 hany
            simp [-List.getD_eq_getElem?_getD, -Int.ofNat_toNat, -getElem?_pos, er79_0, er79_1, er79_2, er79_3, er79_4, er79_5, er79_6, er79_7, er79_8, er79_9, er79_10, er79_11, er79_12, er79_13, er79_14, er79_15, er79_16, er79_18, lX, hlt', hlt, hw1, d1, d2, cI1, cI2, k1]
            exact next_mk (m - 1) (by omega) ⟨i + 1, _, by omega, by rw [hany]; rfl⟩
          | true =>
            rw [qb] at cI2 hany
            simp [-List.getD_eq_getElem?_getD, -Int.ofNat_toNat, -getElem?_pos, er79_0, er79_1, er79_2, er79_3, er79_4, er79_5, er79_6, er79_7, er79_8, er79_9, er79_10, er79_11, er79_12, er79_13, er79_14, er79_15, er79_16, er79_18, lX, hlt', hlt, hw1, d1, d2, cI1, cI2, k1]
            exact next_mk (m - 1) (by omega) ⟨i + 1, _, by omega, by rw [hany]; rfl⟩
    · have hlt' : ¬ (i : Int) < xs.length := by omega
      rw [List.take_of_length_le (by omega), hboth]
      have hw4 : IntKind.i64.wrap ((xs.length : Int) - 1) = (xs.length : Int) - 1 := wrap_in (by omega) (by omega)
      by_cases e : r a = r b
      · rw [if_pos e] at hlen'
        have hl2 : ys.length = xs.length := by omega
        rw [decide_eq_true e]
        simp [-List.getD_eq_getElem?_getD, -Int.ofNat_toNat, -getElem?_pos, er79_0, er79_1, er79_2, er79_3, er79_4, er79_5, er79_6, er79_7, er79_8, er79_9, er79_10, er79_11, er79_12, er79_13, er79_14, er79_15, er79_16, er79_18, lX, lY, hlt', hlt, hl2, resK, resVs, resV, pack]
      · rw [if_neg e] at hlen'
        rw [decide_eq_false e]
        simp [-List.getD_eq_getElem?_getD, -Int.ofNat_toNat, -getElem?_pos, er79_0, er79_1, er79_2, er79_3, er79_4, er79_5, er79_6, er79_7, er79_8, er79_9, er79_10, er79_11, er79_12, er79_13, er79_14, er79_15, er79_16, er79_18, lX, lY, hlt', hlt, hw4, hlen', resK, resVs, resV, pack]
end Go.Ai.G
