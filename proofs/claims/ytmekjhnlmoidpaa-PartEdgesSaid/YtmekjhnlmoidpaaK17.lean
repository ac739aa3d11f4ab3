/- A part of what the law leans on: the abstract machine, the contracts, the rows. -/
import Derived.Test.YtmekjhnlmoidpaaK10
import Derived.Test.YtmekjhnlmoidpaaK15
import Derived.Test.YtmekjhnlmoidpaaK5
/- part: New, Classes; rows of rows told apart. -/
namespace Go.Ai.G
open Go.Ai
set_option maxRecDepth 100000
set_option linter.unusedSimpArgs false
set_option linter.unusedVariables false
variable {A : AProg} {φ : Nat → Nat}
attribute [local simp ↓] getD_z getD_s hid_k hid_o hid_q hid_v PO_nil PO_none PO_grd PD_nil PD_none PD_grd PDO_N PDO_X PDO_call PDO_calli PDO_callv PStep_N PStep_X PStep_call PStep_calli PC_skip PC_lab
  PC_ret PC_exit PC_reg PC_draw PC_seq PC_block PC_loop PC_scope PC_cond thenC_norm thenC_ret thenC_exit blockC_norm blockC_ret blockC_exit loopC_norm loopC_ret loopC_exit endR_ret
  endR_norm
attribute [local simp] gz PDX_free PDX_eq PStep_callv resK_none resK_t resK_tt KNO_val KNO_new KNO_ite KNO_map KXO_some KXO_ite KVA_t KVA_f KG_skip KG_tt KG_ff KG_tf KG_ft KB_true KB_false KNOD_val
  KNOD_new KNOD_ite n_mv n_pick n_bin n_eqB n_eqN n_eqS n_un n_conv n_fadd n_faddV n_fld1 n_fldN n_idx n_idxA n_idxV n_idxAV n_ext n_lenS n_lenS0 n_lenV n_lenT n_lenA n_min n_max
  n_build n_mkfn n_slc n_slc0 n_slcV n_slcA n_load1 n_loadN n_load1V n_loadNV n_alloc n_box n_bsl n_mksl n_nilcP n_nilcV n_nilcI n_nilcF x_store x_clear0 x_clear b_add b_sub b_mul
  b_eql b_neq b_lss b_leq b_gtr b_geq b_and16 unV ntouch gather hide unhide evalOpd applyOuts int_bne int_beq ite_bool ite_int one_bool cells_bool one_int cells_int one_str cells_str
  one_nilp cells_nilp one_ptr cells_ptr one_nils cells_nils one_sl cells_sl one_nilf cells_nilf one_fn cells_fn one_nili cells_nili one_mp cells_mp one_nilm cells_nilm one_iface
  cells_iface one_vs cells_vs one_vp cells_vp cells_agg Nat.testBit setAt_1 setAt_2 closeds_nil closeds_cons closed_bool closed_int closed_str closed_nilp closed_nils closed_nilm
  closed_nilf closed_nili closed_agg closed_tup closed_vs closed_vp closed_iface closed_fn closeds_cI closeds_cE viewA_closed viewR_closed AV.scal AV.scal0 fillA repA part_bool
  part_int part_str part_nilp part_ptr part_nils part_sl part_nilm part_mp part_nilf part_fn part_nili part_iface part_agg part_vs part_vp viewA_sl1 vaSl_cells wrap_0 wrap_1 wrap_2
  wrap_m1 set_last get_last
theorem er70_0 (φ : Nat → Nat) : r70_0 φ = [
  ⟨0, .N .mv, [.c (.bool false)], none, 0⟩] := Eq.trans rfl rfl
theorem er70_1 (φ : Nat → Nat) : r70_1 φ = [
  ⟨0, .N .mv, [.n 0], none, 0⟩,
  ⟨1, .N .lenS, [.l 0], none, 0⟩,
  ⟨2, .N .mv, [.n 1], none, 0⟩,
  ⟨3, .N .lenS, [.l 0], none, 0⟩,
  ⟨4, .N (.bin .neq), [.l 2, .l 0], none, 0⟩] := Eq.trans rfl rfl
theorem er70_2 (φ : Nat → Nat) : r70_2 φ = [
  ⟨0, .N .mv, [.c (.bool false)], none, 0⟩] := Eq.trans rfl rfl
theorem er70_3 (φ : Nat → Nat) : r70_3 φ = [
  ⟨0, .N .mv, [.c (.int .i64 0)], none, 0⟩] := Eq.trans rfl rfl
theorem er70_4 (φ : Nat → Nat) : r70_4 φ = [
  ⟨0, .N .mv, [.n 3], none, 0⟩,
  ⟨1, .N .mv, [.n 0], none, 0⟩,
  ⟨2, .N .lenS, [.l 0], none, 0⟩,
  ⟨3, .N (.bin .lss), [.l 2, .l 0], none, 0⟩] := Eq.trans rfl rfl
theorem er70_5 (φ : Nat → Nat) : r70_5 φ = [
  ⟨0, .N .mv, [.n 0], none, 0⟩,
  ⟨1, .N .mv, [.n 3], none, 0⟩,
  ⟨2, .N (.idx 1), [.l 1, .l 0], none, 3⟩,
  ⟨3, .N .load1, [.l 0], none, 7⟩,
  ⟨4, .N .mv, [.n 1], none, 0⟩,
  ⟨5, .N .mv, [.n 3], none, 0⟩,
  ⟨6, .N (.idx 1), [.l 1, .l 0], none, 48⟩,
  ⟨7, .N .load1, [.l 0], none, 112⟩,
  ⟨8, .calli true (φ 11), [.l 4, .l 0], none, 255⟩,
  ⟨9, .N (.un .not), [.l 0], none, 511⟩] := Eq.trans rfl rfl
theorem er70_6 (φ : Nat → Nat) : r70_6 φ = [
  ⟨0, .N .mv, [.c (.bool false)], none, 0⟩] := Eq.trans rfl rfl
theorem er70_7 (φ : Nat → Nat) : r70_7 φ = [
  ⟨0, .N .mv, [.n 3], none, 0⟩,
  ⟨1, .N (.bin .add), [.l 0, .c (.int .i64 1)], none, 0⟩,
  ⟨2, .N .mv, [.l 0], none, 0⟩] := Eq.trans rfl rfl
theorem er70_9 (φ : Nat → Nat) : r70_9 φ = [
  ⟨0, .N .mv, [.c (.bool true)], none, 0⟩] := Eq.trans rfl rfl
theorem w_Classes (hx : A.ext (φ 68) = some clsExt) {H : Heap} {b bu bs N : Nat} {r : Nat → Nat} {cnt : Int} (p : PS H b bu bs N r cnt) (hN : N ≤ 1000) (K : AV → Heap → Prop)
    (hK : ∀ H', PS H' b bu bs N r cnt → (∀ k, k ≠ bu → H'[k]? = H[k]?) → H'.length = H.length → K (rowsV (cls r N)) H') : PCall A (φ 68) [.ptr b 0 0] H K := by
  obtain ⟨up, sz, pa, d, D, hd⟩ := p
  have hda : ∀ i, i < N → d i ≤ N := fun i hi => by have := hd i hi; have := csz_le N r (r i); omega
  have e1 := dec_okUp D hda
  have e2 : cls (iterU up N) N = cls r N := cls_congr fun i hi => iterU_dec D N i hi (hda i hi)
  have D2 := allTop_dec D hda (2 * N) (Nat.le_refl _)
  have h1 : clsExt [.ptr b 0 0] H = some (.ok (rowsV (cls r N)) (H.set bu (.cells 0 false (cI (allTop N up (2 * N)))))) := by
    unfold clsExt
    simp only [pa.hb, pa.hu]
    rw [if_pos ⟨trivial, trivial, hN, pa.ne.1⟩]
    simp only [decI_cI, e1, if_true, e2]
  refine ⟨1, _, _, ?_, hK _ ⟨_, sz, ⟨?_, List.getElem?_set_self (lt_of_get pa.hu), ?_, D2.len, pa.ls, pa.ne⟩, d, D2, hd⟩ (fun k hk => List.getElem?_set_ne (fun e => hk e.symm)) (by simp)⟩
  · show (match A.ext (φ 68) with | some x => x [.ptr b 0 0] H | none => _) = _
    rw [hx]; exact h1
  · rw [List.getElem?_set_ne (fun e => pa.ne.1 e.symm)]; exact pa.hb
  · rw [List.getElem?_set_ne pa.ne.2.2]; exact pa.hs
/-- The numbers of a new Part, behind k rounds. -/
def upK (k N : Nat) : List Int := (List.range N).map fun (i : Nat) => if i < k then (i : Int) else 0
def szK (k N : Nat) : List Int := (List.range N).map fun (i : Nat) => if i < k then 1 else 0
theorem mapR_set (f g : Nat → Int) (N k : Nat) (h : ∀ i, i < N → g i = if i = k then g k else f i) : ((List.range N).map f).set k (g k) = (List.range N).map g := by
  apply List.ext_getElem?
  intro i
  rw [List.getElem?_set]
  by_cases hi : i < N
  · have e := h i hi
    simp only [List.getElem?_map, List.getElem?_range hi, Option.map_some, List.length_map, List.length_range]
    by_cases hk : k = i
    · subst hk; simp [hi]
    · rw [if_neg hk, e, if_neg (fun x => hk x.symm)]
  · simp only [List.length_map, List.length_range]
    have e2 : (List.range N)[i]? = none := List.getElem?_eq_none (by simp; omega)
    by_cases hk : k = i
    · subst hk; simp [hi]
    · rw [if_neg hk]; simp [e2]
theorem upK_step {k N : Nat} (h : k < N) : (upK k N).set k (k : Int) = upK (k + 1) N := by
  have := mapR_set (fun i => if i < k then (i : Int) else 0) (fun i => if i < k + 1 then (i : Int) else 0) N k (fun i _ => by
    by_cases e : i = k
    · subst e; rw [if_pos rfl]
    · rw [if_neg e]; split <;> split <;> first | rfl | omega)
  simp only [if_pos (Nat.lt_succ_self k)] at this
  exact this
theorem szK_step {k N : Nat} (h : k < N) : (szK k N).set k 1 = szK (k + 1) N := by
  have := mapR_set (fun i => if i < k then 1 else 0) (fun i => if i < k + 1 then 1 else 0) N k (fun i _ => by
    by_cases e : i = k
    · subst e; rw [if_pos rfl]
    · rw [if_neg e]; split <;> split <;> first | rfl | omega)
  simp only [if_pos (Nat.lt_succ_self k)] at this
  exact this
theorem rep_new (N : Nat) : Rep N id (upK N N) := by
  have hu : ∀ i, i < N → upn (upK N N) i = i := fun i hi => by
    unfold upn upK
    rw [List.getD_eq_getElem?_getD]; simp [hi]
  refine ⟨fun _ => 0, ⟨by simp [upK], fun i hi => ?_, fun i hi => by rw [hu i hi]; exact hi, fun i hi => by rw [hu i hi], fun i hi => by rw [hu i hi]; simp, fun i hi => hi, fun i hi => rfl, fun i hi hn => absurd (hu i hi) hn⟩, fun i hi => csz_pos (r := id) hi⟩
  rw [hu i hi]
  unfold upK
  simp [hi]
def clampN (n : Int) : Nat := (min (max n 0) 1000).toNat
theorem w_PNew (h : Has A (φ 60) (f60 φ)) (n : Int) (H : Heap) (K : AV → Heap → Prop)
    (hK : ∀ H', PS H' (H.length + 2) H.length (H.length + 1) (clampN n) id (clampN n) → (∀ k, k < H.length → H'[k]? = H[k]?) → H'.length = H.length + 3 → K (.ptr (H.length + 2) 0 0) H') : PCall A (φ 60) [.int .i64 n] H K := by
  obtain ⟨N, hN⟩ : ∃ N : Nat, clampN n = N := ⟨_, rfl⟩
  have hN1 : N ≤ 1000 := by unfold clampN at hN; omega
  have hmm : min (max n 0) 1000 = (N : Int) := by unfold clampN at hN; omega
  rw [hN] at hK
  have m1 := maxV_i n 0
  have m2 := minV_i (max n 0) 1000
  rw [hmm] at m2
  refine pcall_has h rfl ?_
  simp only [l60_8, b60, f60]
  have hr0 : repA [.int .i64 0] N = cI (upK 0 N) := by
    rw [repA_repl]; unfold upK cI
    rw [List.map_map]
    apply List.ext_getElem?
    intro i
    rw [List.getElem?_replicate]
    by_cases hi : i < N
    · rw [if_pos hi]; simp [hi]
    · rw [if_neg hi, List.getElem?_eq_none (by simp; omega)]
  have hr1 : repA [.int .i64 0] N = cI (szK 0 N) := by rw [hr0]; rfl
  simp [-List.getD_eq_getElem?_getD, -Int.ofNat_toNat, -getElem?_pos, er60_0, er60_1, er60_2, er60_3, er60_4, er60_5, er60_6, er60_7, er60_9, m1, m2, foldV]
  refine ⟨by omega, ?_⟩
  have hst : ∀ S : Ob, (H ++ [Ob.cells 0 false (repA [.int .i64 0] N), Ob.cells 0 false (repA [.int .i64 0] N), S] : Heap) = H ++ [Ob.cells 0 false (cI (upK 0 N)), Ob.cells 0 false (cI (szK 0 N)), S] := fun S => by rw [← hr0, ← hr1]
  rw [hst]
  refine pc_loopI (fun m st => ∃ (k : Nat) (p3 p6 : AV), k + m = N ∧ st = ([.int .i64 N, .nilp, .ptr (H.length + 2) 0 0, p3, .int .i64 N, .int .i64 k, p6],
    H ++ [Ob.cells 0 false (cI (upK k N)), Ob.cells 0 false (cI (szK k N)), Ob.cells 0 false [.sl H.length 0 0 N 1 N true, .sl (H.length + 1) 0 0 N 1 N true, .int .i64 N]])) N ⟨0, _, _, by simp, rfl⟩ ?_
  rintro m st ⟨k, p3, p6, hk, rfl⟩
  by_cases hlt : k < N
  · have hlt' : (k : Int) < N := by omega
    have hkw := wrap1 hlt (by omega)
    have l1 : (cI (upK k N)).length = N := by simp [cI, upK]
    have l2 : (cI (szK k N)).length = N := by simp [cI, szK]
    have s1 : setAt (cI (upK k N)) k [.int .i64 (k : Int)] = cI (upK (k + 1) N) := by rw [setAt_one _ (by omega), ← cI_set, upK_step hlt]
    have s2 : setAt (cI (szK k N)) k [.int .i64 1] = cI (szK (k + 1) N) := by rw [setAt_one _ (by omega), ← cI_set, szK_step hlt]
    have hk1 : k + 1 ≤ N := by omega
    simp [-List.getD_eq_getElem?_getD, -Int.ofNat_toNat, -getElem?_pos, er60_0, er60_1, er60_2, er60_3, er60_4, er60_5, er60_6, er60_7, er60_9, hlt', hlt, hkw, get_at, get_at0, set_at, set_at0, l1, l2, s1, s2, hk1]
    exact next_mk (m - 1) (by omega) ⟨k + 1, _, _, by omega, rfl⟩
  · have hke : k = N := by omega
    subst hke
    have hK' := hK (H ++ [Ob.cells 0 false (cI (upK k k)), Ob.cells 0 false (cI (szK k k)), Ob.cells 0 false [.sl H.length 0 0 k 1 k true, .sl (H.length + 1) 0 0 k 1 k true, .int .i64 k]])
      ⟨upK k k, szK k k, ⟨by rw [get_at]; rfl, by rw [get_at0]; rfl, by rw [get_at]; rfl, by simp [upK], by simp [szK], by omega⟩, rep_new k⟩ (fun i hi => List.getElem?_append_left hi) (by simp)
    simp [-List.getD_eq_getElem?_getD, -Int.ofNat_toNat, -getElem?_pos, er60_0, er60_1, er60_2, er60_3, er60_4, er60_5, er60_6, er60_7, er60_9, resK, resVs, resV, pack]
    exact hK'
/-- Rows of rows, as a value. -/
def IsRows (v : AV) (rows : List (List Int)) : Prop := (v = .nils ∧ rows = []) ∨ ∃ l : List AV, v = .vs rows.length 1 l ∧ l.length = rows.length ∧ AV.closeds l = true ∧ ∀ (j : Nat) x zs, l[j]? = some x → rows[j]? = some zs → IsI x zs
theorem isRows_v (rows : List (List Int)) : IsRows (rowsV rows) rows := by
  unfold rowsV
  by_cases h : rows = []
  · rw [if_pos h]; exact .inl ⟨rfl, h⟩
  · rw [if_neg h]
    refine .inr ⟨_, rfl, by simp, ?_, fun j x zs hx hz => ?_⟩
    · rw [closeds_iff]
      intro i x hx
      rw [List.getElem?_map, Option.map_eq_some_iff] at hx
      obtain ⟨zs, _, rfl⟩ := hx
      exact closeds_cI zs
    · rw [List.getElem?_map, hz] at hx
      cases hx
      exact isI_v zs
theorem IsRows.closed {v : AV} {rows : List (List Int)} (h : IsRows v rows) : v.closed = true := by
  rcases h with ⟨rfl, _⟩ | ⟨l, rfl, _, hc, _⟩
  · rfl
  · exact hc
theorem IsRows.len {v : AV} {rows : List (List Int)} (h : IsRows v rows) (rd : Nat → Option Ob) : nstep .lenS [v] rd = some (.val (.int .i64 rows.length)) := by
  rcases h with ⟨rfl, rfl⟩ | ⟨l, rfl, _⟩ <;> rfl
theorem IsRows.one {v : AV} {rows : List (List Int)} (h : IsRows v rows) : v.one = true := by
  rcases h with ⟨rfl, rfl⟩ | ⟨l, rfl, _⟩ <;> rfl
theorem IsRows.at {v : AV} {rows : List (List Int)} (h : IsRows v rows) {i : Nat} (hi : i < rows.length) : ∃ l x, (∀ (k : IntKind) rd, nstep (.idx 1) [v, .int k (i : Int)] rd = some (.val (.vp l i))) ∧ l[i]? = some x ∧ IsI x rows[i] := by
  rcases h with ⟨rfl, rfl⟩ | ⟨l, rfl, hl, _, hx⟩
  · simp at hi
  · have hil : i < l.length := by omega
    refine ⟨l, l[i], fun k rd => ?_, List.getElem?_eq_getElem hil, hx i _ _ (List.getElem?_eq_getElem hil) (List.getElem?_eq_getElem hi)⟩
    rw [n_idxV, if_pos ⟨rfl, by omega, by omega, by omega⟩]; simp
theorem w_SameRows (h : Has A (φ 70) (f70 φ)) (hS : ∀ v u xs ys, IsI v xs → IsI u ys → xs.length < 1000000000000 → PVal A (φ 11) [v, u] (.bool (decide (xs = ys)))) (v u : AV) (xs ys : List (List Int)) (hv : IsRows v xs) (hu : IsRows u ys)
    (hn : xs.length < 1000000) (hr : ∀ l ∈ xs, l.length < 1000000) : PVal A (φ 70) [v, u] (.bool (decide (xs = ys))) := by
  have l1 := hv.len
  have l2 := hu.len
  refine pval_has h rfl ?_
  simp only [l70_8, b70, f70]
  by_cases hl : xs.length = ys.length
  · have hl' : (xs.length : Int) = ys.length := by omega
    simp [-List.getD_eq_getElem?_getD, -Int.ofNat_toNat, -getElem?_pos, er70_0, er70_1, er70_2, er70_3, er70_4, er70_5, er70_6, er70_7, er70_9, l1, l2, hl]
    refine pc_loopI (fun m st => ∃ (i : Nat) (p5 p6 : AV), i + m = xs.length ∧ xs.take i = ys.take i ∧ st = ([v, u, .bool false, .int .i64 i, .bool false, p5, p6], [])) xs.length ⟨0, _, _, by simp, by simp, rfl⟩ ?_
    rintro m st ⟨i, p5, p6, hi, he, rfl⟩
    by_cases hlt : i < xs.length
    · have hlt2 : i < ys.length := by omega
      have hlt' : (i : Int) < ys.length := by omega
      obtain ⟨c1, x1, a1, b1, d1⟩ := hv.at hlt
      obtain ⟨c2, x2, a2, b2, d2⟩ := hu.at hlt2
      have hw1 := wrap1 hlt (by omega)
      have hlen := hr _ (List.getElem_mem hlt)
      have cS := (hS x1 x2 _ _ d1 d2 (by omega)).eq
      have t1 : xs.take (i + 1) = xs.take i ++ [xs[i]] := List.take_succ_eq_append_getElem hlt
      have t2 : ys.take (i + 1) = ys.take i ++ [ys[i]] := List.take_succ_eq_append_getElem hlt2
      by_cases q : xs[i] = ys[i]
      · rw [decide_eq_true q] at cS
        simp [-List.getD_eq_getElem?_getD, -Int.ofNat_toNat, -getElem?_pos, er70_0, er70_1, er70_2, er70_3, er70_4, er70_5, er70_6, er70_7, er70_9, l1, l2, hl, hlt', hlt2, a1, a2, b1, b2, d1.closed, d2.closed, d1.one, d2.one, cS, hw1, PDX_eq]
        exact next_mk (m - 1) (by omega) ⟨i + 1, _, _, by omega, by rw [t1, t2, he, q], rfl⟩
      · have hne : ¬ xs = ys := fun e => q (by subst e; rfl)
        rw [decide_eq_false q] at cS
        simp [-List.getD_eq_getElem?_getD, -Int.ofNat_toNat, -getElem?_pos, er70_0, er70_1, er70_2, er70_3, er70_4, er70_5, er70_6, er70_7, er70_9, l1, l2, hl, hlt', hlt2, a1, a2, b1, b2, d1.closed, d2.closed, d1.one, d2.one, cS, hne, PDX_eq, resK, resVs, resV, pack]
    · have hlt' : ¬ (i : Int) < ys.length := by omega
      have e : xs = ys := by rw [List.take_of_length_le (by omega), List.take_of_length_le (by omega)] at he; exact he
      simp [-List.getD_eq_getElem?_getD, -Int.ofNat_toNat, -getElem?_pos, er70_0, er70_1, er70_2, er70_3, er70_4, er70_5, er70_6, er70_7, er70_9, l1, l2, hl, hlt', e, resK, resVs, resV, pack]
      try omega
  · have hne : ¬ xs = ys := fun e => hl (by rw [e])
    have hl' : ¬ (xs.length : Int) = ys.length := by omega
    simp [-List.getD_eq_getElem?_getD, -Int.ofNat_toNat, -getElem?_pos, er70_0, er70_1, er70_2, er70_3, er70_4, er70_5, er70_6, er70_7, er70_9, l1, l2, hl, hl', hne, resK, resVs, resV, pack]
end Go.Ai.G
/- Joins, as an equivalence; how many classes there are. -/
namespace Go.Ai.G
open Go.Ai
set_option maxRecDepth 100000
set_option linter.unusedSimpArgs false
set_option linter.unusedVariables false
variable {A : AProg} {φ : Nat → Nat}
/-- What joins make one. -/
inductive Cn (ps : List (Nat × Nat)) : Nat → Nat → Prop where
  | of {a b : Nat} (h : (a, b) ∈ ps) : Cn ps a b
  | refl (a : Nat) : Cn ps a a
  | symm {a b : Nat} (h : Cn ps a b) : Cn ps b a
  | trans {a b c : Nat} (h : Cn ps a b) (k : Cn ps b c) : Cn ps a c
theorem Cn.mono {ps qs : List (Nat × Nat)} (h : ∀ a b, (a, b) ∈ ps → Cn qs a b) : ∀ {a b : Nat}, Cn ps a b → Cn qs a b := by
  intro a b hc
  induction hc with
  | of hm => exact h _ _ hm
  | refl a => exact .refl a
  | symm _ ih => exact .symm ih
  | trans _ _ ih1 ih2 => exact .trans ih1 ih2
theorem Cn.fn {α : Type} {ps : List (Nat × Nat)} (f : Nat → α) (h : ∀ a b, (a, b) ∈ ps → f a = f b) : ∀ {a b : Nat}, Cn ps a b → f a = f b := by
  intro a b hc
  induction hc with
  | of hm => exact h _ _ hm
  | refl a => rfl
  | symm _ ih => exact ih.symm
  | trans _ _ ih1 ih2 => exact ih1.trans ih2
def Joined (N : Nat) (ps : List (Nat × Nat)) (r : Nat → Nat) : Prop := (∀ i j, Cn ps i j → r i = r j) ∧ ∀ i j, i < N → j < N → r i = r j → Cn ps i j
theorem joined_nil (N : Nat) : Joined N [] id := ⟨fun i j h => h.fn id (by simp), fun i j _ _ h => by have : i = j := h; subst this; exact .refl i⟩
theorem joined_step {N : Nat} {ps : List (Nat × Nat)} {r r' : Nat → Nat} (h : Joined N ps r) {a c : Nat} (ha : a < N) (hc : c < N) {ok : Bool} {cnt cnt' : Int} (hj : JoinR N r r' (a : Int) (c : Int) ok cnt cnt') : Joined N ((a, c) :: ps) r' := by
  have hmono : ∀ {i j}, Cn ps i j → Cn ((a, c) :: ps) i j := fun hc => hc.mono fun a b hm => .of (List.mem_cons_of_mem _ hm)
  have hac : Cn ((a, c) :: ps) a c := .of (List.mem_cons_self ..)
  have ta : ((a : Int)).toNat = a := by omega
  have tc : ((c : Int)).toNat = c := by omega
  cases ok with
  | false =>
    obtain ⟨rfl, _⟩ := hj.no rfl
    have hv := hj.val
    rw [ta, tc] at hv
    have hr : r' a = r' c := by
      have := of_decide_eq_false hv.symm
      refine Decidable.byContradiction fun hne => this ⟨⟨by omega, by omega⟩, ⟨by omega, by omega⟩, hne⟩
    refine ⟨fun i j hc => hc.fn r' fun x y hm => ?_, fun i j hi hj' he => hmono (h.2 i j hi hj' he)⟩
    rcases List.mem_cons.1 hm with e | hm
    · cases e; exact hr
    · exact h.1 x y (.of hm)
  | true =>
    obtain ⟨_, x, y, hxy, hor, rfl⟩ := hj.yes rfl
    rw [ta, tc] at hor
    constructor
    · intro i j hcn
      refine hcn.fn (fun i => if r i = y then x else r i) fun u v hm => ?_
      rcases List.mem_cons.1 hm with e | hm
      · cases e
        show (if r a = y then x else r a) = (if r c = y then x else r c)
        rcases hor with ⟨rfl, rfl⟩ | ⟨rfl, rfl⟩
        · rw [if_pos rfl, if_neg hxy]
        · rw [if_pos rfl, if_neg hxy]
      · have := h.1 u v (.of hm)
        simp only [this]
    · intro i j hi hj' he
      have toa : ∀ i, i < N → r i = r a → Cn ((a, c) :: ps) i a := fun i hi e => hmono (h.2 i a hi ha e)
      have toc : ∀ i, i < N → r i = r c → Cn ((a, c) :: ps) i a := fun i hi e => .trans (hmono (h.2 i c hi hc e)) (.symm hac)
      have both : ∀ i, i < N → (r i = x ∨ r i = y) → Cn ((a, c) :: ps) i a := fun i hi e => by
        rcases hor with ⟨rfl, rfl⟩ | ⟨rfl, rfl⟩
        · rcases e with e | e
          · exact toa i hi e
          · exact toc i hi e
        · rcases e with e | e
          · exact toc i hi e
          · exact toa i hi e
      have he : (if r i = y then x else r i) = (if r j = y then x else r j) := he
      by_cases e1 : r i = y
      · rw [if_pos e1] at he
        by_cases e2 : r j = y
        · exact hmono (h.2 i j hi hj' (e1.trans e2.symm))
        · rw [if_neg e2] at he
          exact .trans (both i hi (.inr e1)) (.symm (both j hj' (.inl he.symm)))
      · rw [if_neg e1] at he
        by_cases e2 : r j = y
        · rw [if_pos e2] at he
          exact .trans (both i hi (.inl he)) (.symm (both j hj' (.inr e2)))
        · rw [if_neg e2] at he
          exact hmono (h.2 i j hi hj' he)
theorem joined_rel {N : Nat} {ps qs : List (Nat × Nat)} {r r' : Nat → Nat} (h : Joined N ps r) (k : Joined N qs r') (h1 : ∀ a b, (a, b) ∈ ps → Cn qs a b) (h2 : ∀ a b, (a, b) ∈ qs → Cn ps a b) : ∀ i j, i < N → j < N → (r i = r j ↔ r' i = r' j) :=
  fun i j hi hj => ⟨fun e => k.1 i j ((h.2 i j hi hj e).mono h1), fun e => h.1 i j ((k.2 i j hi hj e).mono h2)⟩
theorem cls_rel {N : Nat} {r r' : Nat → Nat} (h : ∀ i j, i < N → j < N → (r i = r j ↔ r' i = r' j)) : cls r N = cls r' N := by
  have hg : ∀ i, i < N → gcl r N (r i) = gcl r' N (r' i) := fun i hi => by
    unfold gcl
    congr 1
    refine List.filter_congr fun j hj => ?_
    have := h j i (List.mem_range.1 hj) hi
    rw [decide_eq_decide]
    constructor
    · intro e; have := this.1 (by omega); omega
    · intro e; have := this.2 (by omega); omega
  unfold cls
  have e : (List.range N).filter (fun i => decide (ghd (gcl r N (r i)) = (i : Int))) = (List.range N).filter fun i => decide (ghd (gcl r' N (r' i)) = (i : Int)) :=
    List.filter_congr fun i hi => by rw [hg i (List.mem_range.1 hi)]
  rw [e]
  exact List.map_congr_left fun i hi => hg i (List.mem_range.1 (List.mem_filter.1 hi).1)
def rootsN (N : Nat) (r : Nat → Nat) : Nat := ((List.range N).filter fun i => decide (r i = i)).length
theorem rep_facts {N : Nat} {r : Nat → Nat} {up : List Int} (h : Rep N r up) : (∀ i, i < N → r i < N) ∧ ∀ i, i < N → r (r i) = r i := by
  obtain ⟨d, D, _⟩ := h
  exact ⟨D.rlt, D.rr⟩
theorem roots_step {N : Nat} {r r' : Nat → Nat} (hlt : ∀ i, i < N → r i < N) (hrr : ∀ i, i < N → r (r i) = r i) {a c : Int} {cnt cnt' : Int} {ok : Bool} (hj : JoinR N r r' a c ok cnt cnt') (hc : cnt = rootsN N r) : cnt' = rootsN N r' := by
  cases ok with
  | false =>
    obtain ⟨rfl, rfl⟩ := hj.no rfl
    exact hc
  | true =>
    obtain ⟨rfl, x, y, hxy, hor, rfl⟩ := hj.yes rfl
    have hv := of_decide_eq_true hj.val.symm
    obtain ⟨⟨a1, a2⟩, ⟨c1, c2⟩, _⟩ := hv
    have hx : x < N ∧ r x = x := by
      rcases hor with ⟨rfl, rfl⟩ | ⟨rfl, rfl⟩ <;> exact ⟨hlt _ (by omega), hrr _ (by omega)⟩
    have hy : y < N ∧ r y = y := by
      rcases hor with ⟨rfl, rfl⟩ | ⟨rfl, rfl⟩ <;> exact ⟨hlt _ (by omega), hrr _ (by omega)⟩
    have hn : (y :: (List.range N).filter fun i => decide ((if r i = y then x else r i) = i)).length = ((List.range N).filter fun i => decide (r i = i)).length := by
      refine len_of_mem _ _ ?_ ((List.nodup_range).filter _) fun z => ?_
      · rw [List.nodup_cons]
        refine ⟨fun hm => ?_, (List.nodup_range).filter _⟩
        simp only [List.mem_filter, List.mem_range, decide_eq_true_eq] at hm
        rw [if_pos hy.2] at hm
        exact hxy hm.2
      · simp only [List.mem_cons, List.mem_filter, List.mem_range, decide_eq_true_eq]
        constructor
        · rintro (rfl | ⟨h1, h2⟩)
          · exact hy
          · refine ⟨h1, ?_⟩
            by_cases e : r z = y
            · rw [if_pos e] at h2
              subst h2
              exact hx.2
            · rw [if_neg e] at h2; exact h2
        · rintro ⟨h1, h2⟩
          by_cases e : z = y
          · exact .inl e
          · refine .inr ⟨h1, ?_⟩
            rw [if_neg (by rw [h2]; exact e)]; exact h2
    simp only [List.length_cons] at hn
    have hg : rootsN N (fun i => if r i = y then x else r i) = ((List.range N).filter fun i => decide ((if r i = y then x else r i) = i)).length := rfl
    rw [hg]
    unfold rootsN at hc
    omega
/-- A Part in the memory behind these joins. -/
def PSJ (H : Heap) (b bu bs N : Nat) (ps : List (Nat × Nat)) : Prop := ∃ r cnt, PS H b bu bs N r cnt ∧ Joined N ps r ∧ cnt = (rootsN N r : Nat)
theorem roots_le (N : Nat) (r : Nat → Nat) : rootsN N r ≤ N := by
  unfold rootsN
  exact Nat.le_trans (List.length_filter_le _ _) (by simp)
theorem roots_id (N : Nat) : rootsN N id = N := by
  unfold rootsN
  rw [List.filter_eq_self.2 (by simp)]; simp
theorem w_JoinJ (h : Has A (φ 64) (f64 φ)) (hi : Has A (φ 80) (f80 φ)) (ht : Has A (φ 81) (f81 φ)) {H : Heap} {b bu bs N : Nat} {ps : List (Nat × Nat)} (p : PSJ H b bu bs N ps) (hN : N ≤ 1000) {a c : Nat} (ha : a < N) (hc : c < N)
    (K : AV → Heap → Prop) (hK : ∀ H' ok, PSJ H' b bu bs N ((a, c) :: ps) → (∀ k, k ≠ b → k ≠ bu → k ≠ bs → H'[k]? = H[k]?) → H'.length = H.length → K (.bool ok) H') : PCall A (φ 64) [.ptr b 0 0, .int .i64 a, .int .i64 c] H K := by
  obtain ⟨r, cnt, p, hJ, hcn⟩ := p
  have hrl := roots_le N r
  refine w_Join h hi ht p (by omega) a c K fun H' r' cnt' ok p' k l j => ?_
  obtain ⟨up, sz, _, hr⟩ := p
  obtain ⟨f1, f2⟩ := rep_facts hr
  exact hK H' ok ⟨r', cnt', p', joined_step hJ ha hc j, roots_step f1 f2 j hcn⟩ k l
end Go.Ai.G
/- PartOrder. -/
namespace Go.Ai.G
open Go.Ai
set_option maxRecDepth 100000
set_option linter.unusedSimpArgs false
set_option linter.unusedVariables false
variable {A : AProg} {φ : Nat → Nat}
attribute [local simp ↓] getD_z getD_s hid_k hid_o hid_q hid_v PO_nil PO_none PO_grd PD_nil PD_none PD_grd PDO_N PDO_X PDO_call PDO_calli PDO_callv PStep_N PStep_X PStep_call PStep_calli PC_skip PC_lab
  PC_ret PC_exit PC_reg PC_draw PC_seq PC_block PC_loop PC_scope PC_cond thenC_norm thenC_ret thenC_exit blockC_norm blockC_ret blockC_exit loopC_norm loopC_ret loopC_exit endR_ret
  endR_norm
attribute [local simp] gz PDX_free PDX_eq PStep_callv resK_none resK_t resK_tt KNO_val KNO_new KNO_ite KNO_map KXO_some KXO_ite KVA_t KVA_f KG_skip KG_tt KG_ff KG_tf KG_ft KB_true KB_false KNOD_val
  KNOD_new KNOD_ite n_mv n_pick n_bin n_eqB n_eqN n_eqS n_un n_conv n_fadd n_faddV n_fld1 n_fldN n_idx n_idxA n_idxV n_idxAV n_ext n_lenS n_lenS0 n_lenV n_lenT n_lenA n_min n_max
  n_build n_mkfn n_slc n_slc0 n_slcV n_slcA n_load1 n_loadN n_load1V n_loadNV n_alloc n_box n_bsl n_mksl n_nilcP n_nilcV n_nilcI n_nilcF x_store x_clear0 x_clear b_add b_sub b_mul
  b_eql b_neq b_lss b_leq b_gtr b_geq b_and16 unV ntouch gather hide unhide evalOpd applyOuts int_bne int_beq ite_bool ite_int one_bool cells_bool one_int cells_int one_str cells_str
  one_nilp cells_nilp one_ptr cells_ptr one_nils cells_nils one_sl cells_sl one_nilf cells_nilf one_fn cells_fn one_nili cells_nili one_mp cells_mp one_nilm cells_nilm one_iface
  cells_iface one_vs cells_vs one_vp cells_vp cells_agg Nat.testBit setAt_1 setAt_2 closeds_nil closeds_cons closed_bool closed_int closed_str closed_nilp closed_nils closed_nilm
  closed_nilf closed_nili closed_agg closed_tup closed_vs closed_vp closed_iface closed_fn closeds_cI closeds_cE viewA_closed viewR_closed AV.scal AV.scal0 fillA repA part_bool
  part_int part_str part_nilp part_ptr part_nils part_sl part_nilm part_mp part_nilf part_fn part_nili part_iface part_agg part_vs part_vp viewA_sl1 vaSl_cells wrap_0 wrap_1 wrap_2
  wrap_m1 set_last get_last
/-- What the laws on part ask of the functions. -/
structure SP (A : AProg) (φ : Nat → Nat) : Prop where
  new : Has A (φ 60) (f60 φ)
  is : Has A (φ 80) (f80 φ)
  top : Has A (φ 81) (f81 φ)
  join : Has A (φ 64) (f64 φ)
  same : Has A (φ 62) (f62 φ)
  count : Has A (φ 66) (f66 φ)
  classes : A.ext (φ 68) = some clsExt
  rows : ∀ v u xs ys, IsRows v xs → IsRows u ys → xs.length < 1000000 → (∀ l ∈ xs, l.length < 1000000) → PVal A (φ 70) [v, u] (.bool (decide (xs = ys)))
def rd (N : Int) (x : Int) : Nat := ((x % 65536).tmod N).toNat
theorem cls_len {N : Nat} {r : Nat → Nat} : (cls r N).length ≤ N ∧ ∀ l ∈ cls r N, l.length ≤ N := by
  unfold cls
  refine ⟨?_, fun l hl => ?_⟩
  · rw [List.length_map]; exact Nat.le_trans (List.length_filter_le _ _) (by simp)
  · obtain ⟨i, _, rfl⟩ := List.mem_map.1 hl
    exact gcl_len _ _ _
theorem PS.keep {H H' : Heap} {b bu bs N : Nat} {r : Nat → Nat} {cnt : Int} (p : PS H b bu bs N r cnt) (h : ∀ k, k = b ∨ k = bu ∨ k = bs → H'[k]? = H[k]?) : PS H' b bu bs N r cnt := by
  obtain ⟨up, sz, pa, hr⟩ := p
  exact ⟨up, sz, ⟨(h b (.inl rfl)).trans pa.hb, (h bu (.inr (.inl rfl))).trans pa.hu, (h bs (.inr (.inr rfl))).trans pa.hs, pa.lu, pa.ls, pa.ne⟩, hr⟩
theorem PSJ.keep {H H' : Heap} {b bu bs N : Nat} {ps : List (Nat × Nat)} (p : PSJ H b bu bs N ps) (h : ∀ k, k = b ∨ k = bu ∨ k = bs → H'[k]? = H[k]?) : PSJ H' b bu bs N ps := by
  obtain ⟨r, cnt, p, j⟩ := p
  exact ⟨r, cnt, p.keep h, j⟩
end Go.Ai.G
/- PartCounts. -/
namespace Go.Ai.G
open Go.Ai
set_option maxRecDepth 100000
set_option linter.unusedSimpArgs false
set_option linter.unusedVariables false
variable {A : AProg} {φ : Nat → Nat}
attribute [local simp ↓] getD_z getD_s hid_k hid_o hid_q hid_v PO_nil PO_none PO_grd PD_nil PD_none PD_grd PDO_N PDO_X PDO_call PDO_calli PDO_callv PStep_N PStep_X PStep_call PStep_calli PC_skip PC_lab
  PC_ret PC_exit PC_reg PC_draw PC_seq PC_block PC_loop PC_scope PC_cond thenC_norm thenC_ret thenC_exit blockC_norm blockC_ret blockC_exit loopC_norm loopC_ret loopC_exit endR_ret
  endR_norm
attribute [local simp] gz PDX_free PDX_eq PStep_callv resK_none resK_t resK_tt KNO_val KNO_new KNO_ite KNO_map KXO_some KXO_ite KVA_t KVA_f KG_skip KG_tt KG_ff KG_tf KG_ft KB_true KB_false KNOD_val
  KNOD_new KNOD_ite n_mv n_pick n_bin n_eqB n_eqN n_eqS n_un n_conv n_fadd n_faddV n_fld1 n_fldN n_idx n_idxA n_idxV n_idxAV n_ext n_lenS n_lenS0 n_lenV n_lenT n_lenA n_min n_max
  n_build n_mkfn n_slc n_slc0 n_slcV n_slcA n_load1 n_loadN n_load1V n_loadNV n_alloc n_box n_bsl n_mksl n_nilcP n_nilcV n_nilcI n_nilcF x_store x_clear0 x_clear b_add b_sub b_mul
  b_eql b_neq b_lss b_leq b_gtr b_geq b_and16 unV ntouch gather hide unhide evalOpd applyOuts int_bne int_beq ite_bool ite_int one_bool cells_bool one_int cells_int one_str cells_str
  one_nilp cells_nilp one_ptr cells_ptr one_nils cells_nils one_sl cells_sl one_nilf cells_nilf one_fn cells_fn one_nili cells_nili one_mp cells_mp one_nilm cells_nilm one_iface
  cells_iface one_vs cells_vs one_vp cells_vp cells_agg Nat.testBit setAt_1 setAt_2 closeds_nil closeds_cons closed_bool closed_int closed_str closed_nilp closed_nils closed_nilm
  closed_nilf closed_nili closed_agg closed_tup closed_vs closed_vp closed_iface closed_fn closeds_cI closeds_cE viewA_closed viewR_closed AV.scal AV.scal0 fillA repA part_bool
  part_int part_str part_nilp part_ptr part_nils part_sl part_nilm part_mp part_nilf part_fn part_nili part_iface part_agg part_vs part_vp viewA_sl1 vaSl_cells wrap_0 wrap_1 wrap_2
  wrap_m1 set_last get_last
theorem gcl_ne {r : Nat → Nat} {N i : Nat} (hi : i < N) : gcl r N (r i) ≠ [] := fun h => by
  have : (i : Int) ∈ gcl r N (r i) := (gcl_mem _ _ _ _).2 ⟨i, hi, rfl, rfl⟩
  rw [h] at this; simp at this
theorem cls_rowok (r : Nat → Nat) (N : Nat) : ∀ l ∈ cls r N, l ≠ [] ∧ l.Pairwise (· < ·) ∧ ∃ x : Int, ∀ z, z ∈ l ↔ ∃ i : Nat, i < N ∧ (r i : Int) = x ∧ z = (i : Int) := by
  intro l hl
  unfold cls at hl
  obtain ⟨i, hi, rfl⟩ := List.mem_map.1 hl
  simp only [List.mem_filter, List.mem_range] at hi
  exact ⟨gcl_ne hi.1, gcl_sorted _ _ _, _, fun z => gcl_mem _ _ _ _⟩
theorem cls_nodup (r : Nat → Nat) (N : Nat) : (cls r N).flatten.Nodup := by
  rw [List.Nodup, List.pairwise_flatten]
  refine ⟨fun l hl => (cls_rowok r N l hl).2.1.imp fun h => by omega, ?_⟩
  unfold cls
  rw [List.pairwise_map]
  refine List.Pairwise.imp_of_mem ?_ ((List.pairwise_lt_range (n := N)).filter _)
  intro a b ha hb hab x hx y hy he
  simp only [List.mem_filter, List.mem_range, decide_eq_true_eq] at ha hb
  obtain ⟨i, h1, h2, h3⟩ := (gcl_mem _ _ _ _).1 hx
  obtain ⟨j, h4, h5, h6⟩ := (gcl_mem _ _ _ _).1 hy
  have : i = j := by omega
  subst this
  have e : (r a : Int) = r b := by omega
  have h7 := ha.2
  rw [e, hb.2] at h7
  omega
theorem cls_flat (r : Nat → Nat) (N : Nat) (x : Int) : x ∈ (cls r N).flatten ↔ 0 ≤ x ∧ x < N := by
  rw [List.mem_flatten]
  constructor
  · rintro ⟨l, hl, hx⟩
    obtain ⟨_, _, y, hy⟩ := cls_rowok r N l hl
    obtain ⟨i, h1, _, rfl⟩ := (hy x).1 hx
    omega
  · rintro ⟨h1, h2⟩
    obtain ⟨j, rfl⟩ : ∃ j : Nat, x = (j : Int) := ⟨x.toNat, by omega⟩
    have hj : j < N := by omega
    obtain ⟨i, h3, h4, h5⟩ := (gcl_mem _ _ _ _).1 (ghd_mem (gcl_ne (r := r) hj))
    refine ⟨gcl r N (r j), ?_, (gcl_mem _ _ _ _).2 ⟨j, hj, rfl, rfl⟩⟩
    unfold cls
    refine List.mem_map.2 ⟨i, ?_, by rw [h4]⟩
    simp only [List.mem_filter, List.mem_range, decide_eq_true_eq]
    exact ⟨h3, by rw [h4, h5]⟩
theorem cls_total (r : Nat → Nat) (N : Nat) : (cls r N).flatten.length = N := by
  have h : (cls r N).flatten.length = ((List.range N).map fun (i : Nat) => (i : Int)).length := by
    refine len_of_mem _ _ (cls_nodup r N) ?_ fun x => ?_
    · rw [List.Nodup, List.pairwise_map]
      exact (List.pairwise_lt_range (n := N)).imp fun h => by omega
    · rw [cls_flat, List.mem_map]
      constructor
      · rintro ⟨h1, h2⟩; exact ⟨x.toNat, List.mem_range.2 (by omega), by omega⟩
      · rintro ⟨i, hi, rfl⟩; have := List.mem_range.1 hi; omega
  rw [h]; simp
end Go.Ai.G
/- part.Of. -/
namespace Go.Ai.G
open Go.Ai
set_option maxRecDepth 100000
set_option linter.unusedSimpArgs false
set_option linter.unusedVariables false
variable {A : AProg} {φ : Nat → Nat}
attribute [local simp ↓] getD_z getD_s hid_k hid_o hid_q hid_v PO_nil PO_none PO_grd PD_nil PD_none PD_grd PDO_N PDO_X PDO_call PDO_calli PDO_callv PStep_N PStep_X PStep_call PStep_calli PC_skip PC_lab
  PC_ret PC_exit PC_reg PC_draw PC_seq PC_block PC_loop PC_scope PC_cond thenC_norm thenC_ret thenC_exit blockC_norm blockC_ret blockC_exit loopC_norm loopC_ret loopC_exit endR_ret
  endR_norm
attribute [local simp] gz PDX_free PDX_eq PStep_callv resK_none resK_t resK_tt KNO_val KNO_new KNO_ite KNO_map KXO_some KXO_ite KVA_t KVA_f KG_skip KG_tt KG_ff KG_tf KG_ft KB_true KB_false KNOD_val
  KNOD_new KNOD_ite n_mv n_pick n_bin n_eqB n_eqN n_eqS n_un n_conv n_fadd n_faddV n_fld1 n_fldN n_idx n_idxA n_idxV n_idxAV n_ext n_lenS n_lenS0 n_lenV n_lenT n_lenA n_min n_max
  n_build n_mkfn n_slc n_slc0 n_slcV n_slcA n_load1 n_loadN n_load1V n_loadNV n_alloc n_box n_bsl n_mksl n_nilcP n_nilcV n_nilcI n_nilcF x_store x_clear0 x_clear b_add b_sub b_mul
  b_eql b_neq b_lss b_leq b_gtr b_geq b_and16 unV ntouch gather hide unhide evalOpd applyOuts int_bne int_beq ite_bool ite_int one_bool cells_bool one_int cells_int one_str cells_str
  one_nilp cells_nilp one_ptr cells_ptr one_nils cells_nils one_sl cells_sl one_nilf cells_nilf one_fn cells_fn one_nili cells_nili one_mp cells_mp one_nilm cells_nilm one_iface
  cells_iface one_vs cells_vs one_vp cells_vp cells_agg Nat.testBit setAt_1 setAt_2 closeds_nil closeds_cons closed_bool closed_int closed_str closed_nilp closed_nils closed_nilm
  closed_nilf closed_nili closed_agg closed_tup closed_vs closed_vp closed_iface closed_fn closeds_cI closeds_cE viewA_closed viewR_closed AV.scal AV.scal0 fillA repA part_bool
  part_int part_str part_nilp part_ptr part_nils part_sl part_nilm part_mp part_nilf part_fn part_nili part_iface part_agg part_vs part_vp viewA_sl1 vaSl_cells wrap_0 wrap_1 wrap_2
  wrap_m1 set_last get_last
theorem er72_0 (φ : Nat → Nat) : r72_0 φ = [
  ⟨0, .N .box, [.n 0], none, 0⟩,
  ⟨1, .N .mv, [.c (.nils)], none, 0⟩] := Eq.trans rfl rfl
theorem er72_1 (φ : Nat → Nat) : r72_1 φ = [
  ⟨0, .N (.loadN 2), [.n 1], none, 0⟩,
  ⟨1, .calli true (φ 4), [.l 0], none, 0⟩,
  ⟨2, .N (.un .not), [.l 0], none, 0⟩] := Eq.trans rfl rfl
theorem er72_2 (φ : Nat → Nat) : r72_2 φ = [
  ⟨0, .N .mv, [.c (.nils)], none, 0⟩] := Eq.trans rfl rfl
theorem er72_3 (φ : Nat → Nat) : r72_3 φ = [
  ⟨0, .N (.fadd 0), [.n 1], none, 0⟩,
  ⟨1, .N .load1, [.l 0], none, 0⟩,
  ⟨2, .call (φ 60), [.l 0], none, 0⟩,
  ⟨3, .N .mv, [.l 0], none, 0⟩] := Eq.trans rfl rfl
theorem er72_4 (φ : Nat → Nat) : r72_4 φ = [
  ⟨0, .N (.fadd 1), [.n 1], none, 0⟩,
  ⟨1, .N .load1, [.l 0], none, 0⟩,
  ⟨2, .N .lenS, [.l 0], none, 0⟩,
  ⟨3, .N .mv, [.c (.int .i64 0)], none, 0⟩] := Eq.trans rfl rfl
theorem er72_5 (φ : Nat → Nat) : r72_5 φ = [
  ⟨0, .N (.bin .lss), [.n 8, .n 7], none, 0⟩] := Eq.trans rfl rfl
theorem er72_6 (φ : Nat → Nat) : r72_6 φ = [
  ⟨0, .N (.idx 2), [.n 6, .n 8], none, 0⟩,
  ⟨1, .N (.loadN 2), [.l 0], none, 0⟩,
  ⟨2, .N (.alloc [.int .i64 0, .int .i64 0]), [], none, 0⟩,
  ⟨3, .X (.store 2), [.l 0, .l 1], none, 0⟩] := Eq.trans rfl rfl
theorem er72_7 (φ : Nat → Nat) : r72_7 φ = [
  ⟨0, .N .mv, [.n 3], none, 0⟩,
  ⟨1, .N (.fadd 0), [.n 4], none, 0⟩,
  ⟨2, .N .load1, [.l 0], none, 0⟩,
  ⟨3, .N (.fadd 1), [.n 4], none, 0⟩,
  ⟨4, .N .load1, [.l 0], none, 0⟩,
  ⟨5, .call (φ 64), [.l 4, .l 2, .l 0], none, 0⟩] := Eq.trans rfl rfl
theorem er72_8 (φ : Nat → Nat) : r72_8 φ = [
  ⟨0, .N (.bin .add), [.n 8, .c (.int .i64 1)], none, 0⟩,
  ⟨1, .N .mv, [.l 0], none, 0⟩] := Eq.trans rfl rfl
theorem er72_10 (φ : Nat → Nat) : r72_10 φ = [
  ⟨0, .N .mv, [.n 3], none, 0⟩,
  ⟨1, .call (φ 68), [.l 0], none, 0⟩,
  ⟨2, .N .mv, [.l 0], none, 0⟩] := Eq.trans rfl rfl
/-- The edges' ends, as joins. -/
def npr (es : List Ed) : List (Nat × Nat) := es.map fun e => (e.1.toNat, e.2.toNat)
structure Own3 (N : Nat) (r : Nat → Nat) : Prop where
  lt : ∀ i, i < N → r i < N
  rr : ∀ i, i < N → r (r i) = r i
theorem joined_ex (N : Nat) : ∀ ps : List (Nat × Nat), (∀ p ∈ ps, p.1 < N ∧ p.2 < N) → ∃ r, Joined N ps r ∧ Own3 N r
  | [], _ => ⟨id, joined_nil N, ⟨fun i h => h, fun i _ => rfl⟩⟩
  | (a, c) :: ps, h => by
    obtain ⟨r, hj, hl, hr⟩ := joined_ex N ps fun p hp => h p (List.mem_cons_of_mem _ hp)
    obtain ⟨ha, hc⟩ := h (a, c) (List.mem_cons_self ..)
    have i1 : inN N (a : Int) := ⟨by omega, by omega⟩
    have i2 : inN N (c : Int) := ⟨by omega, by omega⟩
    have ta : ((a : Int)).toNat = a := by omega
    have tc : ((c : Int)).toNat = c := by omega
    by_cases e : r a = r c
    · exact ⟨r, joined_step (ok := false) (cnt := 0) (cnt' := 0) hj ha hc ⟨by symm; apply decide_eq_false; rw [ta, tc]; exact fun h => h.2.2 e, fun _ => ⟨rfl, rfl⟩, fun h => by cases h⟩, hl, hr⟩
    · refine ⟨fun i => if r i = r c then r a else r i, joined_step (ok := true) (cnt := 0) (cnt' := -1) hj ha hc ⟨by symm; apply decide_eq_true; rw [ta, tc]; exact ⟨i1, i2, e⟩, (fun h => by cases h), fun _ => ⟨by omega, r a, r c, e, .inl ⟨by rw [ta], by rw [tc]⟩, rfl⟩⟩, fun i hi => ?_, fun i hi => ?_⟩
      · show (if r i = r c then r a else r i) < N
        split
        · exact hl a ha
        · exact hl i hi
      · show (if r (if r i = r c then r a else r i) = r c then r a else r (if r i = r c then r a else r i)) = if r i = r c then r a else r i
        by_cases e2 : r i = r c
        · rw [if_pos e2, hr a ha, if_neg e]
        · rw [if_neg e2, hr i hi, if_neg e2]
theorem w_Of4 (h : Has A (φ 72) (f72 φ)) (g : SP A φ) (hRc : RightC A (φ 4)) (n : Int) (v : AV) (es : List Ed) (hv : IsE v es) (r0 : Nat → Nat) (hj0 : rightE n es = true → Joined n.toNat (npr es) r0) :
    PVal A (φ 72) [gV n v] (if rightE n es = true then rowsV (cls r0 n.toNat) else .nils) := by
  have hone := hv.one
  have hcl := hv.closed
  have hlen := hv.len
  have cR := (hRc n v es hv).eq
  refine pval_has h rfl ?_
  simp only [l72_9, b72, f72]
  by_cases hR : rightE n es = true
  · have hn := right_len hR
    have he := right_ends hR
    have hj := hj0 hR
    rw [if_pos hR]
    simp [hR] at cR
    obtain ⟨N, rfl⟩ : ∃ N : Nat, n = (N : Int) := ⟨n.toNat, by omega⟩
    have hNN : ((N : Int)).toNat = N := by omega
    rw [hNN] at hj ⊢
    have hclp : clampN (N : Int) = N := by unfold clampN; omega
    simp [-List.getD_eq_getElem?_getD, -Int.ofNat_toNat, -getElem?_pos, er72_0, er72_1, er72_2, er72_3, er72_4, er72_5, er72_6, er72_7, er72_8, er72_10, hone, hcl, cR]
    refine w_PNew g.new (N : Int) _ _ fun H1 p1 k1 l1 => ?_
    simp only [hid_k]
    rw [hclp] at p1
    have p1 : PS H1 3 1 2 N id N := p1
    have l1 : H1.length = 4 := l1
    have e0 : H1[0]? = some (.cells 0 false [.int .i64 N, v]) := by rw [k1 0 (by simp)]; rfl
    simp [-List.getD_eq_getElem?_getD, -Int.ofNat_toNat, -getElem?_pos, er72_0, er72_1, er72_2, er72_3, er72_4, er72_5, er72_6, er72_7, er72_8, er72_10, e0, hlen]
    refine pc_loopI (fun m st => ∃ (i : Nat) (x p9 : AV) (H : Heap), i + m = es.length ∧ PSJ H 3 1 2 N (npr (es.take i)).reverse ∧ 4 ≤ H.length ∧ st = ([gV N v, .ptr 0 0 0, .nils, .ptr 3 0 0, x, .bool false, v, .int .i64 es.length, .int .i64 i, p9], H)) es.length
      ⟨0, _, _, H1, by simp, ⟨id, _, p1, joined_nil N, by rw [roots_id]⟩, by omega, rfl⟩ ?_
    rintro m st ⟨i, x, p9, H, hi, hp, hHl, rfl⟩
    by_cases hlt : i < es.length
    · have hlt' : (i : Int) < es.length := by omega
      obtain ⟨i1, z1, z2, le1, t1⟩ := hv.at hlt
      have hw1 := wrap1 hlt (by omega)
      have hts : es.take (i + 1) = es.take i ++ [es[i]] := List.take_succ_eq_append_getElem hlt
      have hends := he _ (List.getElem_mem hlt)
      obtain ⟨a, ha⟩ : ∃ a : Nat, es[i].1 = (a : Int) := ⟨es[i].1.toNat, by omega⟩
      obtain ⟨c, hc⟩ : ∃ c : Nat, es[i].2 = (c : Int) := ⟨es[i].2.toNat, by omega⟩
      have hps : (npr (es.take (i + 1))).reverse = (a, c) :: (npr (es.take i)).reverse := by
        rw [hts]; unfold npr; rw [List.map_append, List.reverse_append, List.map_cons, ha, hc]
        simp
      rw [ha] at z1 t1 hends
      rw [hc] at z2 t1 hends
      simp [-List.getD_eq_getElem?_getD, -Int.ofNat_toNat, -getElem?_pos, er72_0, er72_1, er72_2, er72_3, er72_4, er72_5, er72_6, er72_7, er72_8, er72_10, hlt', hlt, i1, z1, z2, le1, t1, get_at, get_at0, set_at, set_at0]
      have hp' : PSJ (H ++ [.cells 0 false [.int .i64 a, .int .i64 c]]) 3 1 2 N (npr (es.take i)).reverse := hp.keep fun k hk => List.getElem?_append_left (by omega)
      refine w_JoinJ g.join g.is g.top hp' (by omega) (a := a) (c := c) (by omega) (by omega) _ fun H' ok hp2 hk hl => ?_
      simp only [hid_k]
      simp [-List.getD_eq_getElem?_getD, -Int.ofNat_toNat, -getElem?_pos, er72_0, er72_1, er72_2, er72_3, er72_4, er72_5, er72_6, er72_7, er72_8, er72_10, hw1]
      exact next_mk (m - 1) (by omega) ⟨i + 1, _, _, H', by omega, by rw [hps]; exact hp2, by rw [hl]; simp; omega, rfl⟩
    · have hlt' : ¬ (i : Int) < es.length := by omega
      rw [List.take_of_length_le (by omega)] at hp
      obtain ⟨r, cnt, pp, jp, _⟩ := hp
      have hcls : cls r N = cls r0 N := cls_rel (joined_rel jp hj (fun a b hm => .of (List.mem_reverse.1 hm)) (fun a b hm => .of (List.mem_reverse.2 hm)))
      have hclo := (isRows_v (cls r0 N)).closed
      simp [-List.getD_eq_getElem?_getD, -Int.ofNat_toNat, -getElem?_pos, er72_0, er72_1, er72_2, er72_3, er72_4, er72_5, er72_6, er72_7, er72_8, er72_10, hlt', hlt]
      refine w_Classes g.classes pp (by omega) _ fun H3 pp3 k3' l3 => ?_
      simp only [hid_k]
      rw [hcls]
      simp [-List.getD_eq_getElem?_getD, -Int.ofNat_toNat, -getElem?_pos, er72_0, er72_1, er72_2, er72_3, er72_4, er72_5, er72_6, er72_7, er72_8, er72_10, hclo, resK, resVs, resV, pack]
  · simp only [Bool.not_eq_true] at hR
    rw [if_neg (by simp [hR])]
    simp [hR] at cR
    simp [-List.getD_eq_getElem?_getD, -Int.ofNat_toNat, -getElem?_pos, er72_0, er72_1, er72_2, er72_3, er72_4, er72_5, er72_6, er72_7, er72_8, er72_10, hone, hcl, cR, resK, resVs, resV, pack]
end Go.Ai.G
/- PartBridge. -/
namespace Go.Ai.G
open Go.Ai
set_option maxRecDepth 100000
set_option linter.unusedSimpArgs false
set_option linter.unusedVariables false
variable {A : AProg} {φ : Nat → Nat}
attribute [local simp ↓] getD_z getD_s hid_k hid_o hid_q hid_v PO_nil PO_none PO_grd PD_nil PD_none PD_grd PDO_N PDO_X PDO_call PDO_calli PDO_callv PStep_N PStep_X PStep_call PStep_calli PC_skip PC_lab
  PC_ret PC_exit PC_reg PC_draw PC_seq PC_block PC_loop PC_scope PC_cond thenC_norm thenC_ret thenC_exit blockC_norm blockC_ret blockC_exit loopC_norm loopC_ret loopC_exit endR_ret
  endR_norm
attribute [local simp] gz PDX_free PDX_eq PStep_callv resK_none resK_t resK_tt KNO_val KNO_new KNO_ite KNO_map KXO_some KXO_ite KVA_t KVA_f KG_skip KG_tt KG_ff KG_tf KG_ft KB_true KB_false KNOD_val
  KNOD_new KNOD_ite n_mv n_pick n_bin n_eqB n_eqN n_eqS n_un n_conv n_fadd n_faddV n_fld1 n_fldN n_idx n_idxA n_idxV n_idxAV n_ext n_lenS n_lenS0 n_lenV n_lenT n_lenA n_min n_max
  n_build n_mkfn n_slc n_slc0 n_slcV n_slcA n_load1 n_loadN n_load1V n_loadNV n_alloc n_box n_bsl n_mksl n_nilcP n_nilcV n_nilcI n_nilcF x_store x_clear0 x_clear b_add b_sub b_mul
  b_eql b_neq b_lss b_leq b_gtr b_geq b_and16 unV ntouch gather hide unhide evalOpd applyOuts int_bne int_beq ite_bool ite_int one_bool cells_bool one_int cells_int one_str cells_str
  one_nilp cells_nilp one_ptr cells_ptr one_nils cells_nils one_sl cells_sl one_nilf cells_nilf one_fn cells_fn one_nili cells_nili one_mp cells_mp one_nilm cells_nilm one_iface
  cells_iface one_vs cells_vs one_vp cells_vp cells_agg Nat.testBit setAt_1 setAt_2 closeds_nil closeds_cons closed_bool closed_int closed_str closed_nilp closed_nils closed_nilm
  closed_nilf closed_nili closed_agg closed_tup closed_vs closed_vp closed_iface closed_fn closeds_cI closeds_cE viewA_closed viewR_closed AV.scal AV.scal0 fillA repA part_bool
  part_int part_str part_nilp part_ptr part_nils part_sl part_nilm part_mp part_nilf part_fn part_nili part_iface part_agg part_vs part_vp viewA_sl1 vaSl_cells wrap_0 wrap_1 wrap_2
  wrap_m1 set_last get_last
structure SB (A : AProg) (φ : Nat → Nat) : Prop where
  p : SP A φ
  of : Has A (φ 72) (f72 φ)
  right : RightC A (φ 4)
  any : ∀ n most v l, IsE v l → 0 ≤ most → most ≤ 1000 → PVal A (φ 22) [.int .i64 n, v, .int .i64 most] (gV (anyN n most) (rE (anyE n most l)))
  inn : ∀ v xs x, IsI v xs → xs.length < 1000000000000 → PVal A (φ 25) [v, .int .i64 x] (.bool (decide (x ∈ xs)))
structure SB2 (A : AProg) (φ : Nat → Nat) : Prop where
  b : Go.Ai.G.SB A φ
  add : ∀ n a b v es, IsE v es → PVal A (φ 15) [gV n v, .int .i64 a, .int .i64 b] (gR (addE n es a b))
theorem npr_lt {N : Nat} {es : List Ed} (h : rightE (N : Int) es = true) : ∀ p ∈ npr es, p.1 < N ∧ p.2 < N := by
  intro p hp
  obtain ⟨e, he, rfl⟩ := List.mem_map.1 hp
  have := right_ends h e he
  simp only; omega
end Go.Ai.G
/- PartEdges. -/
namespace Go.Ai.G
open Go.Ai
set_option maxRecDepth 100000
set_option linter.unusedSimpArgs false
set_option linter.unusedVariables false
variable {A : AProg} {φ : Nat → Nat}
attribute [local simp ↓] getD_z getD_s hid_k hid_o hid_q hid_v PO_nil PO_none PO_grd PD_nil PD_none PD_grd PDO_N PDO_X PDO_call PDO_calli PDO_callv PStep_N PStep_X PStep_call PStep_calli PC_skip PC_lab
  PC_ret PC_exit PC_reg PC_draw PC_seq PC_block PC_loop PC_scope PC_cond thenC_norm thenC_ret thenC_exit blockC_norm blockC_ret blockC_exit loopC_norm loopC_ret loopC_exit endR_ret
  endR_norm
attribute [local simp] gz PDX_free PDX_eq PStep_callv resK_none resK_t resK_tt KNO_val KNO_new KNO_ite KNO_map KXO_some KXO_ite KVA_t KVA_f KG_skip KG_tt KG_ff KG_tf KG_ft KB_true KB_false KNOD_val
  KNOD_new KNOD_ite n_mv n_pick n_bin n_eqB n_eqN n_eqS n_un n_conv n_fadd n_faddV n_fld1 n_fldN n_idx n_idxA n_idxV n_idxAV n_ext n_lenS n_lenS0 n_lenV n_lenT n_lenA n_min n_max
  n_build n_mkfn n_slc n_slc0 n_slcV n_slcA n_load1 n_loadN n_load1V n_loadNV n_alloc n_box n_bsl n_mksl n_nilcP n_nilcV n_nilcI n_nilcF x_store x_clear0 x_clear b_add b_sub b_mul
  b_eql b_neq b_lss b_leq b_gtr b_geq b_and16 unV ntouch gather hide unhide evalOpd applyOuts int_bne int_beq ite_bool ite_int one_bool cells_bool one_int cells_int one_str cells_str
  one_nilp cells_nilp one_ptr cells_ptr one_nils cells_nils one_sl cells_sl one_nilf cells_nilf one_fn cells_fn one_nili cells_nili one_mp cells_mp one_nilm cells_nilm one_iface
  cells_iface one_vs cells_vs one_vp cells_vp cells_agg Nat.testBit setAt_1 setAt_2 closeds_nil closeds_cons closed_bool closed_int closed_str closed_nilp closed_nils closed_nilm
  closed_nilf closed_nili closed_agg closed_tup closed_vs closed_vp closed_iface closed_fn closeds_cI closeds_cE viewA_closed viewR_closed AV.scal AV.scal0 fillA repA part_bool
  part_int part_str part_nilp part_ptr part_nils part_sl part_nilm part_mp part_nilf part_fn part_nili part_iface part_agg part_vs part_vp viewA_sl1 vaSl_cells wrap_0 wrap_1 wrap_2
  wrap_m1 set_last get_last
theorem er78_0 (φ : Nat → Nat) : r78_0 φ = [
  ⟨0, .N .mv, [.c (.bool false)], none, 0⟩] := Eq.trans rfl rfl
theorem er78_1 (φ : Nat → Nat) : r78_1 φ = [
  ⟨0, .calli true (φ 59), [], none, 0⟩,
  ⟨1, .N .mv, [.l 0], none, 0⟩] := Eq.trans rfl rfl
theorem er78_2 (φ : Nat → Nat) : r78_2 φ = [
  ⟨0, .N .mv, [.n 0], none, 0⟩,
  ⟨1, .N .mv, [.n 1], none, 0⟩,
  ⟨2, .calli false (φ 22), [.l 1, .l 0, .c (.int .i64 50)], none, 0⟩,
  ⟨3, .N (.alloc [.int .i64 0, .nils]), [], none, 0⟩,
  ⟨4, .X (.store 2), [.l 0, .l 1], none, 0⟩] := Eq.trans rfl rfl
theorem er78_3 (φ : Nat → Nat) : r78_3 φ = [
  ⟨0, .N (.loadN 2), [.n 4], none, 0⟩,
  ⟨1, .calli false (φ 72), [.l 0], none, 0⟩,
  ⟨2, .N .mv, [.l 0], none, 0⟩] := Eq.trans rfl rfl
theorem er78_4 (φ : Nat → Nat) : r78_4 φ = [
  ⟨0, .N (.fadd 0), [.n 4], none, 0⟩,
  ⟨1, .N .load1, [.l 0], none, 0⟩,
  ⟨2, .N (.mksl [.int .i64 0] 1 8), [.l 0, .l 0], none, 0⟩,
  ⟨3, .N .mv, [.l 0], none, 0⟩] := Eq.trans rfl rfl
theorem er78_5 (φ : Nat → Nat) : r78_5 φ = [
  ⟨0, .N .mv, [.c (.int .i64 0)], none, 0⟩] := Eq.trans rfl rfl
theorem er78_6 (φ : Nat → Nat) : r78_6 φ = [
  ⟨0, .N .mv, [.c (.int .i64 0)], none, 0⟩] := Eq.trans rfl rfl
theorem er78_7 (φ : Nat → Nat) : r78_7 φ = [
  ⟨0, .N .mv, [.n 8], none, 0⟩,
  ⟨1, .N .mv, [.n 5], none, 0⟩,
  ⟨2, .N .lenS, [.l 0], none, 0⟩,
  ⟨3, .N (.bin .lss), [.l 2, .l 0], none, 0⟩] := Eq.trans rfl rfl
theorem er78_8 (φ : Nat → Nat) : r78_8 φ = [
  ⟨0, .N .mv, [.c (.int .i64 0)], none, 0⟩] := Eq.trans rfl rfl
theorem er78_9 (φ : Nat → Nat) : r78_9 φ = [
  ⟨0, .N .mv, [.n 9], none, 0⟩,
  ⟨1, .N .mv, [.n 5], none, 0⟩,
  ⟨2, .N .mv, [.n 8], none, 0⟩,
  ⟨3, .N (.idx 1), [.l 1, .l 0], none, 0⟩,
  ⟨4, .N .load1, [.l 0], none, 0⟩,
  ⟨5, .N .lenS, [.l 0], none, 0⟩,
  ⟨6, .N (.bin .lss), [.l 5, .l 0], none, 0⟩] := Eq.trans rfl rfl
theorem er78_10 (φ : Nat → Nat) : r78_10 φ = [
  ⟨0, .N .mv, [.n 5], none, 0⟩,
  ⟨1, .N .mv, [.n 8], none, 0⟩,
  ⟨2, .N (.idx 1), [.l 1, .l 0], none, 0⟩,
  ⟨3, .N .load1, [.l 0], none, 0⟩,
  ⟨4, .N .mv, [.n 9], none, 0⟩,
  ⟨5, .N (.idx 1), [.l 1, .l 0], none, 0⟩,
  ⟨6, .N .load1, [.l 0], none, 0⟩,
  ⟨7, .N .mv, [.l 0], none, 0⟩] := Eq.trans rfl rfl
theorem er78_11 (φ : Nat → Nat) : r78_11 φ = [
  ⟨0, .N .mv, [.n 10], none, 0⟩,
  ⟨1, .N (.bin .lss), [.l 0, .c (.int .i64 0)], none, 1⟩,
  ⟨2, .N .mv, [.l 0], none, 3⟩,
  ⟨3, .N .mv, [.n 10], some (.l 0, false), 7⟩,
  ⟨4, .N (.fadd 0), [.n 4], some (.l 1, false), 7⟩,
  ⟨5, .N .load1, [.l 0], some (.l 2, false), 23⟩,
  ⟨6, .N (.bin .geq), [.l 2, .l 0], some (.l 3, false), 63⟩,
  ⟨7, .N .pick, [.l 4, .c (.bool true), .l 0], none, 127⟩,
  ⟨8, .N .mv, [.l 0], none, 255⟩,
  ⟨9, .N .mv, [.n 6], some (.l 0, false), 511⟩,
  ⟨10, .N .mv, [.n 10], some (.l 1, false), 511⟩,
  ⟨11, .N (.idx 1), [.l 1, .l 0], some (.l 2, false), 2047⟩,
  ⟨12, .N .load1, [.l 0], some (.l 3, false), 4095⟩,
  ⟨13, .N (.bin .neq), [.l 0, .c (.int .i64 0)], some (.l 4, false), 8191⟩,
  ⟨14, .N .pick, [.l 5, .c (.bool true), .l 0], none, 16383⟩,
  ⟨15, .N .mv, [.l 0], none, 32767⟩,
  ⟨16, .N (.loadN 2), [.n 4], some (.l 0, false), 65535⟩,
  ⟨17, .N .mv, [.n 10], some (.l 1, false), 65535⟩,
  ⟨21, .N .mv, [.n 5], some (.l 2, false), 65535⟩,
  ⟨22, .N .mv, [.n 8], some (.l 3, false), 65535⟩,
  ⟨23, .N (.idx 1), [.l 1, .l 0], some (.l 4, false), 851967⟩,
  ⟨24, .N .load1, [.l 0], some (.l 5, false), 1900543⟩,
  ⟨25, .N .lenS, [.l 0], some (.l 6, false), 3997695⟩,
  ⟨26, .N (.bin .eql), [.l 0, .c (.int .i64 1)], some (.l 7, false), 8191999⟩,
  ⟨18, .calli false (φ 9), [.l 7, .l 6], some (.l 8, false), 262143⟩,
  ⟨19, .N .lenS, [.l 0], some (.l 9, false), 17039359⟩,
  ⟨20, .N (.bin .eql), [.l 0, .c (.int .i64 0)], some (.l 10, false), 50593791⟩,
  ⟨27, .N (.eqB true), [.l 0, .l 3], some (.l 11, false), 134217727⟩,
  ⟨28, .N .pick, [.l 12, .c (.bool true), .l 0], none, 268435455⟩] := Eq.trans rfl rfl
theorem er78_12 (φ : Nat → Nat) : r78_12 φ = [
  ⟨0, .N .mv, [.c (.bool false)], none, 0⟩] := Eq.trans rfl rfl
theorem er78_13 (φ : Nat → Nat) : r78_13 φ = [
  ⟨0, .N .mv, [.n 6], none, 0⟩,
  ⟨1, .N .mv, [.n 10], none, 0⟩,
  ⟨2, .N .mv, [.n 8], none, 0⟩,
  ⟨3, .N (.bin .add), [.l 0, .c (.int .i64 1)], none, 0⟩,
  ⟨4, .N (.idx 1), [.l 3, .l 2], none, 0⟩,
  ⟨5, .X (.store 1), [.l 0, .l 1], none, 0⟩] := Eq.trans rfl rfl
theorem er78_14 (φ : Nat → Nat) : r78_14 φ = [
  ⟨0, .N .mv, [.n 7], none, 0⟩,
  ⟨1, .N (.bin .add), [.l 0, .c (.int .i64 1)], none, 0⟩,
  ⟨2, .N .mv, [.l 0], none, 0⟩] := Eq.trans rfl rfl
theorem er78_15 (φ : Nat → Nat) : r78_15 φ = [
  ⟨0, .N .mv, [.n 9], none, 0⟩,
  ⟨1, .N (.bin .add), [.l 0, .c (.int .i64 1)], none, 0⟩,
  ⟨2, .N .mv, [.l 0], none, 0⟩] := Eq.trans rfl rfl
theorem er78_17 (φ : Nat → Nat) : r78_17 φ = [
  ⟨0, .N .mv, [.n 8], none, 0⟩,
  ⟨1, .N (.bin .add), [.l 0, .c (.int .i64 1)], none, 0⟩,
  ⟨2, .N .mv, [.l 0], none, 0⟩] := Eq.trans rfl rfl
theorem er78_19 (φ : Nat → Nat) : r78_19 φ = [
  ⟨0, .N .mv, [.c (.int .i64 0)], none, 0⟩] := Eq.trans rfl rfl
theorem er78_20 (φ : Nat → Nat) : r78_20 φ = [
  ⟨0, .N .mv, [.n 11], none, 0⟩,
  ⟨1, .N (.fadd 1), [.n 4], none, 0⟩,
  ⟨2, .N .load1, [.l 0], none, 0⟩,
  ⟨3, .N .lenS, [.l 0], none, 0⟩,
  ⟨4, .N (.bin .lss), [.l 3, .l 0], none, 0⟩] := Eq.trans rfl rfl
theorem er78_21 (φ : Nat → Nat) : r78_21 φ = [
  ⟨0, .N .mv, [.n 6], none, 0⟩,
  ⟨1, .N (.fadd 1), [.n 4], none, 0⟩,
  ⟨2, .N .load1, [.l 0], none, 2⟩,
  ⟨3, .N .mv, [.n 11], none, 0⟩,
  ⟨4, .N (.idx 2), [.l 1, .l 0], none, 14⟩,
  ⟨5, .N (.fadd 0), [.l 0], none, 30⟩,
  ⟨6, .N .load1, [.l 0], none, 62⟩,
  ⟨7, .N (.idx 1), [.l 6, .l 0], none, 127⟩,
  ⟨8, .N .load1, [.l 0], none, 255⟩,
  ⟨9, .N .mv, [.n 6], none, 0⟩,
  ⟨10, .N (.fadd 1), [.n 4], none, 0⟩,
  ⟨11, .N .load1, [.l 0], none, 1024⟩,
  ⟨12, .N .mv, [.n 11], none, 0⟩,
  ⟨13, .N (.idx 2), [.l 1, .l 0], none, 7168⟩,
  ⟨14, .N (.fadd 1), [.l 0], none, 15360⟩,
  ⟨15, .N .load1, [.l 0], none, 31744⟩,
  ⟨16, .N (.idx 1), [.l 6, .l 0], none, 65024⟩,
  ⟨17, .N .load1, [.l 0], none, 130560⟩,
  ⟨18, .N (.bin .neq), [.l 9, .l 0], none, 262143⟩] := Eq.trans rfl rfl
theorem er78_22 (φ : Nat → Nat) : r78_22 φ = [
  ⟨0, .N .mv, [.c (.bool false)], none, 0⟩] := Eq.trans rfl rfl
theorem er78_23 (φ : Nat → Nat) : r78_23 φ = [
  ⟨0, .N .mv, [.n 11], none, 0⟩,
  ⟨1, .N (.bin .add), [.l 0, .c (.int .i64 1)], none, 0⟩,
  ⟨2, .N .mv, [.l 0], none, 0⟩] := Eq.trans rfl rfl
theorem er78_25 (φ : Nat → Nat) : r78_25 φ = [
  ⟨0, .N .mv, [.n 3], none, 0⟩,
  ⟨1, .N .mv, [.l 0], none, 0⟩,
  ⟨2, .N .mv, [.n 7], some (.l 0, true), 0⟩,
  ⟨3, .N (.fadd 0), [.n 4], some (.l 1, true), 0⟩,
  ⟨4, .N .load1, [.l 0], some (.l 2, true), 0⟩,
  ⟨5, .N (.bin .eql), [.l 2, .l 0], some (.l 3, true), 0⟩,
  ⟨6, .N .pick, [.l 4, .l 0, .c (.bool false)], none, 0⟩,
  ⟨7, .N .mv, [.l 0], none, 0⟩] := Eq.trans rfl rfl
structure SE3 (A : AProg) (φ : Nat → Nat) : Prop where
  b : Go.Ai.G.SB A φ
  near : ∀ n a v es, IsE v es → PVal A (φ 9) [gV n v, .int .i64 a] (rI (if rightE n es then sortI (nbR a es) else []))
theorem flat_disj {L : List (List Int)} (h : L.flatten.Nodup) {i j : Nat} (hi : i < L.length) (hj : j < L.length) {x : Int} (h1 : x ∈ L[i]) (h2 : x ∈ L[j]) : i = j := by
  rw [List.Nodup, List.pairwise_flatten] at h
  have hp := List.pairwise_iff_getElem.1 h.2
  rcases Nat.lt_trichotomy i j with hlt | hlt | hlt
  · exact absurd rfl (hp i j hi hj hlt x h1 x h2)
  · exact hlt
  · exact absurd rfl (hp j i hj hi hlt x h2 x h1)
/-- A vertex has no neighbour just if it is alone in its class. -/
theorem alone_iff {N : Nat} {E : List Ed} (hR : rightE (N : Int) E = true) {r : Nat → Nat} (hj : Joined N (npr E) r) {l : List Int} {x : Int} (hm : ∀ z, z ∈ l ↔ ∃ i : Nat, i < N ∧ (r i : Int) = x ∧ z = (i : Int)) (hs : l.Pairwise (· < ·)) {v : Nat} (hv : (v : Int) ∈ l) :
    (sortI (nbR (v : Int) E)).length = 0 ↔ l.length = 1 := by
  have he := right_ends hR
  obtain ⟨i, h1, h2, h3⟩ := (hm _).1 hv
  have hiv : i = v := by omega
  subst hiv
  constructor
  · intro h0
    have hno : ∀ w, ¬ ((i : Int), w) ∈ E ∧ ¬ (w, (i : Int)) ∈ E := fun w => by
      have hnil : sortI (nbR (i : Int) E) = [] := List.length_eq_zero_iff.1 h0
      have := nb_mem hR (i : Int) w
      rw [hnil] at this
      simp at this
      exact this
    have hall : ∀ z ∈ l, z = (i : Int) := fun z hz => by
      obtain ⟨j, h4, h5, rfl⟩ := (hm z).1 hz
      have hc := hj.2 i j h1 h4 (by omega)
      have := hc.fn (fun y => decide (y = i)) fun a b hab => by
        obtain ⟨e, he1, he2⟩ := List.mem_map.1 hab
        cases he2
        have hee := he e he1
        have n1 : ¬ e.1.toNat = i := fun h => (hno e.2).1 (by
          have : e = ((i : Int), e.2) := Prod.ext (by simp only; omega) rfl
          rw [← this]; exact he1)
        have n2 : ¬ e.2.toNat = i := fun h => (hno e.1).2 (by
          have : e = (e.1, (i : Int)) := Prod.ext rfl (by simp only; omega)
          rw [← this]; exact he1)
        simp [n1, n2]
      simp at this
      rw [this]
    match l, hs, hv, hall with
    | [], _, hv, _ => simp at hv
    | [a], _, _, _ => rfl
    | a :: b :: t, hs, _, hall =>
      have e1 := hall a (by simp)
      have e2 := hall b (by simp)
      rw [List.pairwise_cons] at hs
      have := hs.1 b (by simp)
      omega
  · intro h1l
    refine Decidable.byContradiction fun hne => ?_
    obtain ⟨w, hw⟩ : ∃ w, w ∈ sortI (nbR (i : Int) E) := by
      cases h : sortI (nbR (i : Int) E) with
      | nil => rw [h] at hne; simp at hne
      | cons a t => exact ⟨a, by simp⟩
    have hed := (nb_mem hR (i : Int) w).1 hw
    have key : ∃ u : Nat, u < N ∧ u ≠ i ∧ r u = r i ∧ w = (u : Int) := by
      rcases hed with h | h
      · have hee := he _ h
        simp only at hee
        have hc := hj.1 _ _ (.of (List.mem_map.2 ⟨_, h, rfl⟩))
        simp only [Int.toNat_natCast] at hc
        exact ⟨w.toNat, by omega, by omega, hc.symm, by omega⟩
      · have hee := he _ h
        simp only at hee
        have hc := hj.1 _ _ (.of (List.mem_map.2 ⟨_, h, rfl⟩))
        simp only [Int.toNat_natCast] at hc
        exact ⟨w.toNat, by omega, by omega, hc, by omega⟩
    obtain ⟨u, h4, h5, h6, rfl⟩ := key
    have hul : (u : Int) ∈ l := (hm _).2 ⟨u, h4, by omega, rfl⟩
    match l, h1l, hv, hul with
    | [a], _, hv, hul =>
      simp at hv hul
      omega
/-- Which row each number stands in; nought: none yet. -/
def RowC (N : Nat) (rows : List (List Int)) (P : List Int) (c : List AV) : Prop := c.length = N ∧ (∀ x : Nat, x < N → (x : Int) ∉ P → c[x]? = some (.int .i64 0)) ∧ ∀ x : Nat, x < N → (x : Int) ∈ P → ∃ (j : Nat) (hj : j < rows.length), (x : Int) ∈ rows[j] ∧ c[x]? = some (.int .i64 ((j : Int) + 1))
theorem rowC_start (N : Nat) (rows : List (List Int)) : RowC N rows [] (repA [.int .i64 0] N) := by
  refine ⟨by rw [repA_len]; simp, fun x hx _ => ?_, fun x _ h => by simp at h⟩
  rw [repA_repl, List.getElem?_replicate, if_pos hx]
theorem rowC_add {N : Nat} {rows : List (List Int)} {P : List Int} {c : List AV} (h : RowC N rows P c) {x j : Nat} (hx : x < N) (hj : j < rows.length) (hm : (x : Int) ∈ rows[j]) : RowC N rows (P ++ [(x : Int)]) (c.set x (.int .i64 ((j : Int) + 1))) := by
  obtain ⟨h1, h2, h3⟩ := h
  refine ⟨by rw [List.length_set]; exact h1, fun y hy hn => ?_, fun y hy hm' => ?_⟩
  · simp only [List.mem_append, List.mem_singleton, not_or] at hn
    rw [List.getElem?_set, if_neg (by omega)]; exact h2 y hy hn.1
  · rw [List.getElem?_set]
    by_cases e : x = y
    · subst e; rw [if_pos rfl, if_pos (by rw [h1]; exact hx)]; exact ⟨j, hj, hm, rfl⟩
    · rw [if_neg e]
      have : (y : Int) ∈ P := by
        rcases List.mem_append.1 hm' with h | h
        · exact h
        · simp at h; omega
      exact h3 y hy this
set_option maxHeartbeats 8000000 in
theorem w_PartEdges (h : Has A (φ 78) (f78 φ)) (hS : PVal A (φ 59) [] (.bool true)) (g : SE3 A φ) (n : Int) (v : AV) (l : List Ed) (hv : IsE v l) :
    PVal A (φ 78) [.int .i64 n, v] (.bool true) := by
  have hsh := hS.eq
  have hcl := hv.closed
  have c0 := (g.b.any n 50 v l hv (by omega) (by omega)).eq
  have hR := any_right n l (most := 50) (by omega) (by omega)
  have hEl := anyE_len n 50 l
  have hNr := anyN_range (n := n) (most := 50) (by omega)
  generalize anyN n 50 = N at *
  generalize anyE n 50 l = E at *
  obtain ⟨N, rfl⟩ : ∃ M : Nat, N = (M : Int) := ⟨N.toNat, by omega⟩
  have iE := isE_r E
  have hElen := iE.len
  have hNN : ((N : Int)).toNat = N := by omega
  obtain ⟨r, hj, ho⟩ := joined_ex N (npr E) (npr_lt hR)
  have cO := (w_Of4 g.b.of g.b.p g.b.right N _ E iE r (fun _ => by rw [hNN]; exact hj)).eq
  rw [if_pos hR, hNN] at cO
  have cN := fun a : Int => (g.near N a _ E iE).eq
  rw [hR] at cN
  simp only [if_true] at cN
  obtain ⟨y1, y2⟩ := cls_len (N := N) (r := r)
  have hrok := cls_rowok r N
  have hnd := cls_nodup r N
  have hfl := cls_flat r N
  have htot := cls_total r N
  have hX := isRows_v (cls r N)
  generalize cls r N = rows at *
  have lX := hX.len
  have aX := fun (i : Nat) (h : i < rows.length) => hX.at h
  have hin : ∀ l ∈ rows, ∀ z ∈ l, 0 ≤ z ∧ z < (N : Int) := fun l hl z hz => (hfl z).1 (List.mem_flatten.2 ⟨l, hl, hz⟩)
  generalize rowsV rows = R at *
  generalize hUe : rE E = U at *
  refine pval_has h rfl ?_
  simp only [l78_16, l78_18, l78_24, b78, f78]
  simp [-List.getD_eq_getElem?_getD, -Int.ofNat_toNat, -getElem?_pos, er78_0, er78_1, er78_2, er78_3, er78_4, er78_5, er78_6, er78_7, er78_8, er78_9, er78_10, er78_11, er78_12, er78_13, er78_14, er78_15, er78_17, er78_19, er78_20, er78_21, er78_22, er78_23, er78_25, hsh, hcl, c0, iE.closed, iE.one, iE.cells, cO]
  refine ⟨by omega, ?_⟩
  refine pc_loopI (fun m st => ∃ (i : Nat) (c : List AV) (ct : Int) (a9 a10 p12 p13 p14 : AV), i + m = rows.length ∧ RowC N rows (rows.take i).flatten c ∧ ct = ((rows.take i).flatten.length : Nat) ∧
    st = ([.int .i64 n, v, .bool false, .bool true, .ptr 0 0 0, R, .sl 1 0 0 N 1 N true, .int .i64 ct, .int .i64 i, a9, a10, .un, p12, p13, p14, .un, .un], [.cells 0 false [.int .i64 N, U], .cells 0 false c])) rows.length
    ⟨0, _, 0, _, _, _, _, _, by simp, by simpa using rowC_start N rows, by simp, rfl⟩ ?_
  rintro m st ⟨i, c, ct, a9, a10, p12, p13, p14, hi, hc, hct, rfl⟩
  by_cases hlt : i < rows.length
  · have hlt' : (i : Int) < rows.length := by omega
    obtain ⟨lx, x, o1, o2, o3⟩ := aX i hlt
    obtain ⟨hne, hsrt, xr, hmem⟩ := hrok _ (List.getElem_mem hlt)
    have hiw := wrap1 hlt (by omega)
    have hts : rows.take (i + 1) = rows.take i ++ [rows[i]] := List.take_succ_eq_append_getElem hlt
    have hflat2 : rows.flatten = (rows.take i).flatten ++ (rows[i] ++ (rows.drop (i + 1)).flatten) := by
      have : rows = rows.take i ++ rows[i] :: rows.drop (i + 1) := by rw [← List.drop_eq_getElem_cons hlt, List.take_append_drop]
      rw [show rows.flatten = (rows.take i ++ rows[i] :: rows.drop (i + 1)).flatten by rw [← this], List.flatten_append, List.flatten_cons]
    have hrowin := hin _ (List.getElem_mem hlt)
    have hrmem : ∀ z, z ∈ rows[i] → z ∈ rows[i] := fun _ h => h
    generalize hPe : (rows.take i).flatten = P at *
    have hadd : ∀ (P' : List Int) (c : List AV) (z : Nat), RowC N rows P' c → z < N → (z : Int) ∈ rows[i] → RowC N rows (P' ++ [(z : Int)]) (c.set z (.int .i64 ((i : Int) + 1))) := fun P' c z h hz hm => rowC_add h hz hlt hm
    have hP2 : (rows.take (i + 1)).flatten = P ++ rows[i] := by rw [hts, List.flatten_append, hPe]; simp
    have htot2 : P.length + (rows[i].length + (rows.drop (i + 1)).flatten.length) = N := by rw [← htot, hflat2]; simp
    generalize rows[i] = l at *
    have hxl := o3.len
    simp [-List.getD_eq_getElem?_getD, -Int.ofNat_toNat, -getElem?_pos, er78_0, er78_1, er78_2, er78_3, er78_4, er78_5, er78_6, er78_7, er78_8, er78_9, er78_10, er78_11, er78_12, er78_13, er78_14, er78_15, er78_17, er78_19, er78_20, er78_21, er78_22, er78_23, er78_25, lX, hlt', hlt]
    refine pc_loopI (fun m2 st => ∃ (k : Nat) (c : List AV) (ct : Int) (a10 p13 p14 : AV), k + m2 = l.length ∧ RowC N rows (P ++ l.take k) c ∧ ct = ((P ++ l.take k).length : Nat) ∧
      st = ([.int .i64 n, v, .bool false, .bool true, .ptr 0 0 0, R, .sl 1 0 0 N 1 N true, .int .i64 ct, .int .i64 i, .int .i64 k, a10, .un, .bool true, p13, p14, .un, .un], [.cells 0 false [.int .i64 N, U], .cells 0 false c])) l.length
      ⟨0, c, _, _, _, _, by simp, by simpa using hc, by simpa using hct, rfl⟩ ?_
    clear hc hct
    rintro m2 st2 ⟨k, c, ct, a10, p13, p14, hk, hc, hct, rfl⟩
    by_cases hkl : k < l.length
    · have hkl' : (k : Int) < l.length := by omega
      obtain ⟨w1, w2⟩ := o3.at hkl
      have hkw := wrap1 hkl (by omega)
      have hzm : l[k] ∈ l := List.getElem_mem hkl
      have hz := hrowin _ hzm
      have hlk : l.take (k + 1) = l.take k ++ [l[k]] := List.take_succ_eq_append_getElem hkl
      have hnotin : ¬ l[k] ∈ P ++ l.take k := by
        intro hm
        rw [hflat2, List.nodup_append] at hnd
        rcases List.mem_append.1 hm with hm | hm
        · exact hnd.2.2 _ hm _ (List.mem_append_left _ hzm) rfl
        · obtain ⟨j, hj, e⟩ := List.getElem_of_mem hm
          rw [List.getElem_take] at e
          have hj' : j < k := by simp at hj; omega
          have := List.pairwise_iff_getElem.1 hsrt j k (by omega) hkl hj'
          omega
      obtain ⟨z, hzz⟩ : ∃ z : Nat, l[k] = (z : Int) := ⟨l[k].toNat, by omega⟩
      rw [hzz] at hz hlk hnotin w2 hzm
      have hzN : z < N := by omega
      have hzN' : ¬ (N : Int) ≤ z := by omega
      have hzN2 : ¬ N ≤ z := by omega
      have hz0 : ¬ (z : Int) < 0 := by omega
      have hzN3 : (z : Int) < N := by omega
      have hcz := hc.2.1 z hzN hnotin
      have hcl2 := hc.1
      have hz1 : z + 1 ≤ c.length := by omega
      have hz1' : z + 1 ≤ N := by omega
      have s1 := setAt_one (c := c) (o := z) (.int .i64 ((i : Int) + 1)) (by omega)
      have hca := hadd _ c z hc hzN hzm
      have cNz := cN z
      have hal := alone_iff hR hj hmem hsrt hzm
      generalize sortI (nbR (z : Int) E) = nb at *
      have hNb := (isI_r nb).len
      have hNc := (isI_r nb).closed
      have hNo := (isI_r nb).one
      generalize rI nb = W at *
      have hPl : (P ++ l.take k).length < N := by simp; omega
      have hcw0 : (P ++ l.take (k + 1)).length = (P ++ l.take k).length + 1 := by
        rw [hlk, ← List.append_assoc, List.length_append]; rfl
      have hcw : IntKind.i64.wrap (ct + 1) = ct + 1 := by
        rw [wrap_in (by omega) (by omega)]
      have hiw2 : IntKind.i64.wrap ((i : Int) + 1) = (i : Int) + 1 := by rw [hiw]; omega
      have fin : ∀ a10 p13 p14 : AV, nextC (fun m2 st => ∃ (k : Nat) (c : List AV) (ct : Int) (a10 p13 p14 : AV), k + m2 = l.length ∧ RowC N rows (P ++ l.take k) c ∧ ct = ((P ++ l.take k).length : Nat) ∧
          st = ([.int .i64 n, v, .bool false, .bool true, .ptr 0 0 0, R, .sl 1 0 0 N 1 N true, .int .i64 ct, .int .i64 i, .int .i64 k, a10, .un, .bool true, p13, p14, .un, .un], [.cells 0 false [.int .i64 N, U], .cells 0 false c])) () m2
          ([.int .i64 n, v, .bool false, .bool true, .ptr 0 0 0, R, .sl 1 0 0 N 1 N true, .int .i64 (ct + 1), .int .i64 i, .int .i64 ((k : Int) + 1), a10, .un, .bool true, p13, p14, .un, .un], [.cells 0 false [.int .i64 N, U], .cells 0 false (c.set z (.int .i64 ((i : Int) + 1)))]) := fun a10 p13 p14 => by
        exact next_mk (m2 - 1) (by omega) ⟨k + 1, _, _, a10, p13, p14, by omega, by rw [hlk, ← List.append_assoc]; exact hca, by omega, rfl⟩
      by_cases hone : l.length = 1
      · have hnb0 := hal.2 hone
        have hk1 : (k : Int) < 1 := by omega
        have hk2 : k < 1 := by omega
        have hk3 : k = 0 := by omega
        simp [-List.getD_eq_getElem?_getD, -Int.ofNat_toNat, -getElem?_pos, er78_0, er78_1, er78_2, er78_3, er78_4, er78_5, er78_6, er78_7, er78_8, er78_9, er78_10, er78_11, er78_12, er78_13, er78_14, er78_15, er78_17, er78_19, er78_20, er78_21, er78_22, er78_23, er78_25, hxl, hkl', hkl, hk1, hk2, lX, o1, o2, w1, w2, hz0, hzN', hzN2, hzN3, hzN, hcz, cNz, hNb, hNc, hNo, iE.closed, hone, hnb0, PDX_eq, s1, hcl2, hz1, hz1', hcw, hkw, hiw2]
        exact fin _ _ _
      · have hnb0 : ¬ nb.length = 0 := fun e => hone (hal.1 e)
        have hnb1 : ¬ (nb.length : Int) = 0 := by omega
        have hone' : ¬ (l.length : Int) = 1 := by omega
        simp [-List.getD_eq_getElem?_getD, -Int.ofNat_toNat, -getElem?_pos, er78_0, er78_1, er78_2, er78_3, er78_4, er78_5, er78_6, er78_7, er78_8, er78_9, er78_10, er78_11, er78_12, er78_13, er78_14, er78_15, er78_17, er78_19, er78_20, er78_21, er78_22, er78_23, er78_25, hxl, hkl', hkl, lX, o1, o2, w1, w2, hz0, hzN', hzN2, hzN3, hzN, hcz, cNz, hNb, hNc, hNo, iE.closed, hone, hone', hnb0, hnb1, PDX_eq, s1, hcl2, hz1, hz1', hcw, hkw, hiw2]
        exact fin _ _ _
    · have hkl' : ¬ (k : Int) < l.length := by omega
      rw [List.take_of_length_le (by omega)] at hc
      rw [List.take_of_length_le (by omega)] at hct
      simp [-List.getD_eq_getElem?_getD, -Int.ofNat_toNat, -getElem?_pos, er78_0, er78_1, er78_2, er78_3, er78_4, er78_5, er78_6, er78_7, er78_8, er78_9, er78_10, er78_11, er78_12, er78_13, er78_14, er78_15, er78_17, er78_19, er78_20, er78_21, er78_22, er78_23, er78_25, hxl, hkl', hkl, lX, o1, o2, hiw]
      exact next_mk (m - 1) (by omega) ⟨i + 1, c, _, _, _, _, _, _, by omega, by rw [hP2]; exact hc, by rw [hP2]; exact hct, rfl⟩
  · have hlt' : ¬ (i : Int) < rows.length := by omega
    rw [List.take_of_length_le (by omega)] at hc
    rw [List.take_of_length_le (by omega), htot] at hct
    subst hct
    simp [-List.getD_eq_getElem?_getD, -Int.ofNat_toNat, -getElem?_pos, er78_0, er78_1, er78_2, er78_3, er78_4, er78_5, er78_6, er78_7, er78_8, er78_9, er78_10, er78_11, er78_12, er78_13, er78_14, er78_15, er78_17, er78_19, er78_20, er78_21, er78_22, er78_23, er78_25, lX, hlt', hlt]
    refine pc_loopI (fun m st => ∃ (i2 : Nat) (p15 p16 : AV), i2 + m = E.length ∧ st = ([.int .i64 n, v, .bool false, .bool true, .ptr 0 0 0, R, .sl 1 0 0 N 1 N true, .int .i64 N, .int .i64 i, a9, a10, .int .i64 i2, .bool false, p13, p14, p15, p16], [.cells 0 false [.int .i64 N, U], .cells 0 false c])) E.length
      ⟨0, _, _, by simp, rfl⟩ ?_
    rintro m2 st2 ⟨i2, p15, p16, hi2, rfl⟩
    by_cases hl2 : i2 < E.length
    · have hl2' : (i2 : Int) < E.length := by omega
      obtain ⟨i1, z1, z2, le1, t1⟩ := iE.at hl2
      have hw1 := wrap1 hl2 (by omega)
      have hem := List.getElem_mem hl2
      have hends := right_ends hR _ hem
      have hcn := hj.1 _ _ (.of (List.mem_map.2 ⟨_, hem, rfl⟩))
      generalize E[i2] = e at *
      obtain ⟨a, ha⟩ : ∃ a : Nat, e.1 = (a : Int) := ⟨e.1.toNat, by omega⟩
      obtain ⟨b, hb⟩ : ∃ b : Nat, e.2 = (b : Int) := ⟨e.2.toNat, by omega⟩
      rw [ha] at z1 hends hcn
      rw [hb] at z2 hends hcn
      simp only [Int.toNat_natCast] at hcn
      have haN : a < N := by omega
      have hbN : b < N := by omega
      have haN' : (a : Int) < N := by omega
      have hbN' : (b : Int) < N := by omega
      obtain ⟨j1, hj1, m1, g1⟩ := hc.2.2 a haN ((hfl _).2 ⟨by omega, by omega⟩)
      obtain ⟨j2, hj2, m2', g2⟩ := hc.2.2 b hbN ((hfl _).2 ⟨by omega, by omega⟩)
      have hjj : j1 = j2 := by
        obtain ⟨_, _, x, hx⟩ := hrok _ (List.getElem_mem hj1)
        obtain ⟨a', _, h3, h4⟩ := (hx _).1 m1
        have : (b : Int) ∈ rows[j1] := (hx _).2 ⟨b, hbN, by rw [← hcn, ← h3]; congr 1; congr 1; omega, rfl⟩
        exact flat_disj hnd hj1 hj2 this m2'
      subst hjj
      simp [-List.getD_eq_getElem?_getD, -Int.ofNat_toNat, -getElem?_pos, er78_0, er78_1, er78_2, er78_3, er78_4, er78_5, er78_6, er78_7, er78_8, er78_9, er78_10, er78_11, er78_12, er78_13, er78_14, er78_15, er78_17, er78_19, er78_20, er78_21, er78_22, er78_23, er78_25, hElen, hl2', hl2, i1, z1, z2, haN, hbN, haN', hbN', g1, g2, hw1]
      exact next_mk (m2 - 1) (by omega) ⟨i2 + 1, _, _, by omega, rfl⟩
    · have hl2' : ¬ (i2 : Int) < E.length := by omega
      simp [-List.getD_eq_getElem?_getD, -Int.ofNat_toNat, -getElem?_pos, er78_0, er78_1, er78_2, er78_3, er78_4, er78_5, er78_6, er78_7, er78_8, er78_9, er78_10, er78_11, er78_12, er78_13, er78_14, er78_15, er78_17, er78_19, er78_20, er78_21, er78_22, er78_23, er78_25, hElen, hl2', hl2, resK, resVs, resV, pack]
end Go.Ai.G
