/- A part of what the law leans on: the abstract machine, the contracts, the rows. -/
import Derived.Test.YtmekjhnlmoidpaaK9
import Derived.Test.YtmekjhnlmoidpaaK14
import Derived.Test.YtmekjhnlmoidpaaK5
/- part: New, Classes; rows of rows told apart. -/
namespace Go.Ai.G
open Go.Ai
set_option maxRecDepth 100000
set_option linter.unusedSimpArgs false
set_option linter.unusedVariables false
variable {A : AProg} {φ : Nat → Nat}
attribute [local simp ↓] getD_z getD_s hid_k hid_o hid_q hid_v PO_nil PO_none PO_grd PD_nil PD_none PD_grd PDO_N PDO_X PDO_call PDO_calli PDO_callv PStep_N PStep_X PStep_call PStep_calli PC_skip PC_lab
  PC_ret PC_exit PC_reg PC_draw PC_seq PC_block PC_loop PC_scope PC_cond thenC_norm thenC_ret thenC_exit blockC_norm blockC_ret blockC_exit loopC_norm loopC_ret loopC_exit endR_ret
  endR_norm
attribute [local simp] gz PDX_free PDX_eq PStep_callv resK_none resK_t resK_tt KNO_val KNO_new KNO_ite KNO_map KXO_some KXO_ite KVA_t KVA_f KG_skip KG_tt KG_ff KG_tf KG_ft KB_true KB_false KNOD_val
  KNOD_new KNOD_ite n_mv n_pick n_bin n_eqB n_eqN n_eqS n_un n_conv n_fadd n_faddV n_fld1 n_fldN n_idx n_idxA n_idxV n_idxAV n_ext n_lenS n_lenS0 n_lenV n_lenT n_lenA n_min n_max
  n_build n_mkfn n_slc n_slc0 n_slcV n_slcA n_load1 n_loadN n_load1V n_loadNV n_alloc n_box n_bsl n_mksl n_nilcP n_nilcV n_nilcI n_nilcF x_store x_clear0 x_clear b_add b_sub b_mul
  b_eql b_neq b_lss b_leq b_gtr b_geq b_and16 unV ntouch gather hide unhide evalOpd applyOuts int_bne int_beq ite_bool ite_int one_bool cells_bool one_int cells_int one_str cells_str
  one_nilp cells_nilp one_ptr cells_ptr one_nils cells_nils one_sl cells_sl one_nilf cells_nilf one_fn cells_fn one_nili cells_nili one_mp cells_mp one_nilm cells_nilm one_iface
  cells_iface one_vs cells_vs one_vp cells_vp cells_agg Nat.testBit setAt_1 setAt_2 closeds_nil closeds_cons closed_bool closed_int closed_str closed_nilp closed_nils closed_nilm
  closed_nilf closed_nili closed_agg closed_tup closed_vs closed_vp closed_iface closed_fn closeds_cI closeds_cE viewA_closed viewR_closed AV.scal AV.scal0 fillA repA part_bool
  part_int part_str part_nilp part_ptr part_nils part_sl part_nilm part_mp part_nilf part_fn part_nili part_iface part_agg part_vs part_vp viewA_sl1 vaSl_cells wrap_0 wrap_1 wrap_2
  wrap_m1 set_last get_last
theorem er70_0 (φ : Nat → Nat) : r70_0 φ = [
  ⟨0, .N .mv, [.c (.bool false)], none, 0⟩] := Eq.trans rfl rfl
theorem er70_1 (φ : Nat → Nat) : r70_1 φ = [
  ⟨0, .N .mv, [.n 0], none, 0⟩,
  ⟨1, .N .lenS, [.l 0], none, 0⟩,
  ⟨2, .N .mv, [.n 1], none, 0⟩,
  ⟨3, .N .lenS, [.l 0], none, 0⟩,
  ⟨4, .N (.bin .neq), [.l 2, .l 0], none, 0⟩] := Eq.trans rfl rfl
theorem er70_2 (φ : Nat → Nat) : r70_2 φ = [
  ⟨0, .N .mv, [.c (.bool false)], none, 0⟩] := Eq.trans rfl rfl
theorem er70_3 (φ : Nat → Nat) : r70_3 φ = [
  ⟨0, .N .mv, [.c (.int .i64 0)], none, 0⟩] := Eq.trans rfl rfl
theorem er70_4 (φ : Nat → Nat) : r70_4 φ = [
  ⟨0, .N .mv, [.n 3], none, 0⟩,
  ⟨1, .N .mv, [.n 0], none, 0⟩,
  ⟨2, .N .lenS, [.l 0], none, 0⟩,
  ⟨3, .N (.bin .lss), [.l 2, .l 0], none, 0⟩] := Eq.trans rfl rfl
theorem er70_5 (φ : Nat → Nat) : r70_5 φ = [
  ⟨0, .N .mv, [.n 0], none, 0⟩,
  ⟨1, .N .mv, [.n 3], none, 0⟩,
  ⟨2, .N (.idx 1), [.l 1, .l 0], none, 3⟩,
  ⟨3, .N .load1, [.l 0], none, 7⟩,
  ⟨4, .N .mv, [.n 1], none, 0⟩,
  ⟨5, .N .mv, [.n 3], none, 0⟩,
  ⟨6, .N (.idx 1), [.l 1, .l 0], none, 48⟩,
  ⟨7, .N .load1, [.l 0], none, 112⟩,
  ⟨8, .calli true (φ 11), [.l 4, .l 0], none, 255⟩,
  ⟨9, .N (.un .not), [.l 0], none, 511⟩] := Eq.trans rfl rfl
theorem er70_6 (φ : Nat → Nat) : r70_6 φ = [
  ⟨0, .N .mv, [.c (.bool false)], none, 0⟩] := Eq.trans rfl rfl
theorem er70_7 (φ : Nat → Nat) : r70_7 φ = [
  ⟨0, .N .mv, [.n 3], none, 0⟩,
  ⟨1, .N (.bin .add), [.l 0, .c (.int .i64 1)], none, 0⟩,
  ⟨2, .N .mv, [.l 0], none, 0⟩] := Eq.trans rfl rfl
theorem er70_9 (φ : Nat → Nat) : r70_9 φ = [
  ⟨0, .N .mv, [.c (.bool true)], none, 0⟩] := Eq.trans rfl rfl
theorem w_Classes (hx : A.ext (φ 68) = some clsExt) {H : Heap} {b bu bs N : Nat} {r : Nat → Nat} {cnt : Int} (p : PS H b bu bs N r cnt) (hN : N ≤ 1000) (K : AV → Heap → Prop)
    (hK : ∀ H', PS H' b bu bs N r cnt → (∀ k, k ≠ bu → H'[k]? = H[k]?) → H'.length = H.length → K (rowsV (cls r N)) H') : PCall A (φ 68) [.ptr b 0 0] H K := by
  obtain ⟨up, sz, pa, d, D, hd⟩ := p
  have hda : ∀ i, i < N → d i ≤ N := fun i hi => by have := hd i hi; have := csz_le N r (r i); omega
  have e1 := dec_okUp D hda
  have e2 : cls (iterU up N) N = cls r N := cls_congr fun i hi => iterU_dec D N i hi (hda i hi)
  have D2 := allTop_dec D hda (2 * N) (Nat.le_refl _)
  have h1 : clsExt [.ptr b 0 0] H = some (.ok (rowsV (cls r N)) (H.set bu (.cells 0 false (cI (allTop N up (2 * N)))))) := by
    unfold clsExt
    simp only [pa.hb, pa.hu]
    rw [if_pos ⟨trivial, trivial, hN, pa.ne.1⟩]
    simp only [decI_cI, e1, if_true, e2]
  refine ⟨1, _, _, ?_, hK _ ⟨_, sz, ⟨?_, List.getElem?_set_self (lt_of_get pa.hu), ?_, D2.len, pa.ls, pa.ne⟩, d, D2, hd⟩ (fun k hk => List.getElem?_set_ne (fun e => hk e.symm)) (by simp)⟩
  · show (match A.ext (φ 68) with | some x => x [.ptr b 0 0] H | none => _) = _
    rw [hx]; exact h1
  · rw [List.getElem?_set_ne (fun e => pa.ne.1 e.symm)]; exact pa.hb
  · rw [List.getElem?_set_ne pa.ne.2.2]; exact pa.hs
/-- The numbers of a new Part, behind k rounds. -/
def upK (k N : Nat) : List Int := (List.range N).map fun (i : Nat) => if i < k then (i : Int) else 0
def szK (k N : Nat) : List Int := (List.range N).map fun (i : Nat) => if i < k then 1 else 0
theorem mapR_set (f g : Nat → Int) (N k : Nat) (h : ∀ i, i < N → g i = if i = k then g k else f i) : ((List.range N).map f).set k (g k) = (List.range N).map g := by
  apply List.ext_getElem?
  intro i
  rw [List.getElem?_set]
  by_cases hi : i < N
  · have e := h i hi
    simp only [List.getElem?_map, List.getElem?_range hi, Option.map_some, List.length_map, List.length_range]
    by_cases hk : k = i
    · subst hk; simp [hi]
    · rw [if_neg hk, e, if_neg (fun x => hk x.symm)]
  · simp only [List.length_map, List.length_range]
    have e2 : (List.range N)[i]? = none := List.getElem?_eq_none (by simp; omega)
    by_cases hk : k = i
    · subst hk; simp [hi]
    · rw [if_neg hk]; simp [e2]
theorem upK_step {k N : Nat} (h : k < N) : (upK k N).set k (k : Int) = upK (k + 1) N := by
  have := mapR_set (fun i => if i < k then (i : Int) else 0) (fun i => if i < k + 1 then (i : Int) else 0) N k (fun i _ => by
    by_cases e : i = k
    · subst e; rw [if_pos rfl]
    · rw [if_neg e]; split <;> split <;> first | rfl | omega)
  simp only [if_pos (Nat.lt_succ_self k)] at this
  exact this
theorem szK_step {k N : Nat} (h : k < N) : (szK k N).set k 1 = szK (k + 1) N := by
  have := mapR_set (fun i => if i < k then 1 else 0) (fun i => if i < k + 1 then 1 else 0) N k (fun i _ => by
    by_cases e : i = k
    · subst e; rw [if_pos rfl]
    · rw [if_neg e]; split <;> split <;> first | rfl | omega)
  simp only [if_pos (Nat.lt_succ_self k)] at this
  exact this
theorem rep_new (N : Nat) : Rep N id (upK N N) := by
  have hu : ∀ i, i < N → upn (upK N N) i = i := fun i hi => by
    unfold upn upK
    rw [List.getD_eq_getElem?_getD]; simp [hi]
  refine ⟨fun _ => 0, ⟨by simp [upK], fun i hi => ?_, fun i hi => by rw [hu i hi]; exact hi, fun i hi => by rw [hu i hi], fun i hi => by rw [hu i hi]; simp, fun i hi => hi, fun i hi => rfl, fun i hi hn => absurd (hu i hi) hn⟩, fun i hi => csz_pos (r := id) hi⟩
  rw [hu i hi]
  unfold upK
  simp [hi]
def clampN (n : Int) : Nat := (min (max n 0) 1000).toNat
theorem w_PNew (h : Has A (φ 60) (f60 φ)) (n : Int) (H : Heap) (K : AV → Heap → Prop)
    (hK : ∀ H', PS H' (H.length + 2) H.length (H.length + 1) (clampN n) id (clampN n) → (∀ k, k < H.length → H'[k]? = H[k]?) → H'.length = H.length + 3 → K (.ptr (H.length + 2) 0 0) H') : PCall A (φ 60) [.int .i64 n] H K := by
  obtain ⟨N, hN⟩ : ∃ N : Nat, clampN n = N := ⟨_, rfl⟩
  have hN1 : N ≤ 1000 := by unfold clampN at hN; omega
  have hmm : min (max n 0) 1000 = (N : Int) := by unfold clampN at hN; omega
  rw [hN] at hK
  have m1 := maxV_i n 0
  have m2 := minV_i (max n 0) 1000
  rw [hmm] at m2
  refine pcall_has h rfl ?_
  simp only [l60_8, b60, f60]
  have hr0 : repA [.int .i64 0] N = cI (upK 0 N) := by
    rw [repA_repl]; unfold upK cI
    rw [List.map_map]
    apply List.ext_getElem?
    intro i
    rw [List.getElem?_replicate]
    by_cases hi : i < N
    · rw [if_pos hi]; simp [hi]
    · rw [if_neg hi, List.getElem?_eq_none (by simp; omega)]
  have hr1 : repA [.int .i64 0] N = cI (szK 0 N) := by rw [hr0]; rfl
  simp [-List.getD_eq_getElem?_getD, -Int.ofNat_toNat, -getElem?_pos, er60_0, er60_1, er60_2, er60_3, er60_4, er60_5, er60_6, er60_7, er60_9, m1, m2, foldV]
  refine ⟨by omega, ?_⟩
  have hst : ∀ S : Ob, (H ++ [Ob.cells 0 false (repA [.int .i64 0] N), Ob.cells 0 false (repA [.int .i64 0] N), S] : Heap) = H ++ [Ob.cells 0 false (cI (upK 0 N)), Ob.cells 0 false (cI (szK 0 N)), S] := fun S => by rw [← hr0, ← hr1]
  rw [hst]
  refine pc_loopI (fun m st => ∃ (k : Nat) (p3 p6 : AV), k + m = N ∧ st = ([.int .i64 N, .nilp, .ptr (H.length + 2) 0 0, p3, .int .i64 N, .int .i64 k, p6],
    H ++ [Ob.cells 0 false (cI (upK k N)), Ob.cells 0 false (cI (szK k N)), Ob.cells 0 false [.sl H.length 0 0 N 1 N true, .sl (H.length + 1) 0 0 N 1 N true, .int .i64 N]])) N ⟨0, _, _, by simp, rfl⟩ ?_
  rintro m st ⟨k, p3, p6, hk, rfl⟩
  by_cases hlt : k < N
  · have hlt' : (k : Int) < N := by omega
    have hkw := wrap1 hlt (by omega)
    have l1 : (cI (upK k N)).length = N := by simp [cI, upK]
    have l2 : (cI (szK k N)).length = N := by simp [cI, szK]
    have s1 : setAt (cI (upK k N)) k [.int .i64 (k : Int)] = cI (upK (k + 1) N) := by rw [setAt_one _ (by omega), ← cI_set, upK_step hlt]
    have s2 : setAt (cI (szK k N)) k [.int .i64 1] = cI (szK (k + 1) N) := by rw [setAt_one _ (by omega), ← cI_set, szK_step hlt]
    have hk1 : k + 1 ≤ N := by omega
    simp [-List.getD_eq_getElem?_getD, -Int.ofNat_toNat, -getElem?_pos, er60_0, er60_1, er60_2, er60_3, er60_4, er60_5, er60_6, er60_7, er60_9, hlt', hlt, hkw, get_at, get_at0, set_at, set_at0, l1, l2, s1, s2, hk1]
    exact next_mk (m - 1) (by omega) ⟨k + 1, _, _, by omega, rfl⟩
  · have hke : k = N := by omega
    subst hke
    have hK' := hK (H ++ [Ob.cells 0 false (cI (upK k k)), Ob.cells 0 false (cI (szK k k)), Ob.cells 0 false [.sl H.length 0 0 k 1 k true, .sl (H.length + 1) 0 0 k 1 k true, .int .i64 k]])
      ⟨upK k k, szK k k, ⟨by rw [get_at]; rfl, by rw [get_at0]; rfl, by rw [get_at]; rfl, by simp [upK], by simp [szK], by omega⟩, rep_new k⟩ (fun i hi => List.getElem?_append_left hi) (by simp)
    simp [-List.getD_eq_getElem?_getD, -Int.ofNat_toNat, -getElem?_pos, er60_0, er60_1, er60_2, er60_3, er60_4, er60_5, er60_6, er60_7, er60_9, resK, resVs, resV, pack]
    exact hK'
/-- Rows of rows, as a value. -/
def IsRows (v : AV) (rows : List (List Int)) : Prop := (v = .nils ∧ rows = []) ∨ ∃ l : List AV, v = .vs rows.length 1 l ∧ l.length = rows.length ∧ AV.closeds l = true ∧ ∀ (j : Nat) x zs, l[j]? = some x → rows[j]? = some zs → IsI x zs
theorem isRows_v (rows : List (List Int)) : IsRows (rowsV rows) rows := by
  unfold rowsV
  by_cases h : rows = []
  · rw [if_pos h]; exact .inl ⟨rfl, h⟩
  · rw [if_neg h]
    refine .inr ⟨_, rfl, by simp, ?_, fun j x zs hx hz => ?_⟩
    · rw [closeds_iff]
      intro i x hx
      rw [List.getElem?_map, Option.map_eq_some_iff] at hx
      obtain ⟨zs, _, rfl⟩ := hx
      exact closeds_cI zs
    · rw [List.getElem?_map, hz] at hx
      cases hx
      exact isI_v zs
theorem IsRows.closed {v : AV} {rows : List (List Int)} (h : IsRows v rows) : v.closed = true := by
  rcases h with ⟨rfl, _⟩ | ⟨l, rfl, _, hc, _⟩
  · rfl
  · exact hc
theorem IsRows.len {v : AV} {rows : List (List Int)} (h : IsRows v rows) (rd : Nat → Option Ob) : nstep .lenS [v] rd = some (.val (.int .i64 rows.length)) := by
  rcases h with ⟨rfl, rfl⟩ | ⟨l, rfl, _⟩ <;> rfl
theorem IsRows.one {v : AV} {rows : List (List Int)} (h : IsRows v rows) : v.one = true := by
  rcases h with ⟨rfl, rfl⟩ | ⟨l, rfl, _⟩ <;> rfl
theorem IsRows.at {v : AV} {rows : List (List Int)} (h : IsRows v rows) {i : Nat} (hi : i < rows.length) : ∃ l x, (∀ (k : IntKind) rd, nstep (.idx 1) [v, .int k (i : Int)] rd = some (.val (.vp l i))) ∧ l[i]? = some x ∧ IsI x rows[i] := by
  rcases h with ⟨rfl, rfl⟩ | ⟨l, rfl, hl, _, hx⟩
  · simp at hi
  · have hil : i < l.length := by omega
    refine ⟨l, l[i], fun k rd => ?_, List.getElem?_eq_getElem hil, hx i _ _ (List.getElem?_eq_getElem hil) (List.getElem?_eq_getElem hi)⟩
    rw [n_idxV, if_pos ⟨rfl, by omega, by omega, by omega⟩]; simp
theorem w_SameRows (h : Has A (φ 70) (f70 φ)) (hS : ∀ v u xs ys, IsI v xs → IsI u ys → xs.length < 1000000000000 → PVal A (φ 11) [v, u] (.bool (decide (xs = ys)))) (v u : AV) (xs ys : List (List Int)) (hv : IsRows v xs) (hu : IsRows u ys)
    (hn : xs.length < 1000000) (hr : ∀ l ∈ xs, l.length < 1000000) : PVal A (φ 70) [v, u] (.bool (decide (xs = ys))) := by
  have l1 := hv.len
  have l2 := hu.len
  refine pval_has h rfl ?_
  simp only [l70_8, b70, f70]
  by_cases hl : xs.length = ys.length
  · have hl' : (xs.length : Int) = ys.length := by omega
    simp [-List.getD_eq_getElem?_getD, -Int.ofNat_toNat, -getElem?_pos, er70_0, er70_1, er70_2, er70_3, er70_4, er70_5, er70_6, er70_7, er70_9, l1, l2, hl]
    refine pc_loopI (fun m st => ∃ (i : Nat) (p5 p6 : AV), i + m = xs.length ∧ xs.take i = ys.take i ∧ st = ([v, u, .bool false, .int .i64 i, .bool false, p5, p6], [])) xs.length ⟨0, _, _, by simp, by simp, rfl⟩ ?_
    rintro m st ⟨i, p5, p6, hi, he, rfl⟩
    by_cases hlt : i < xs.length
    · have hlt2 : i < ys.length := by omega
      have hlt' : (i : Int) < ys.length := by omega
      obtain ⟨c1, x1, a1, b1, d1⟩ := hv.at hlt
      obtain ⟨c2, x2, a2, b2, d2⟩ := hu.at hlt2
      have hw1 := wrap1 hlt (by omega)
      have hlen := hr _ (List.getElem_mem hlt)
      have cS := (hS x1 x2 _ _ d1 d2 (by omega)).eq
      have t1 : xs.take (i + 1) = xs.take i ++ [xs[i]] := List.take_succ_eq_append_getElem hlt
      have t2 : ys.take (i + 1) = ys.take i ++ [ys[i]] := List.take_succ_eq_append_getElem hlt2
      by_cases q : xs[i] = ys[i]
      · rw [decide_eq_true q] at cS
        simp [-List.getD_eq_getElem?_getD, -Int.ofNat_toNat, -getElem?_pos, er70_0, er70_1, er70_2, er70_3, er70_4, er70_5, er70_6, er70_7, er70_9, l1, l2, hl, hlt', hlt2, a1, a2, b1, b2, d1.closed, d2.closed, d1.one, d2.one, cS, hw1, PDX_eq]
        exact next_mk (m - 1) (by omega) ⟨i + 1, _, _, by omega, by rw [t1, t2, he, q], rfl⟩
      · have hne : ¬ xs = ys := fun e => q (by subst e; rfl)
        rw [decide_eq_false q] at cS
        simp [-List.getD_eq_getElem?_getD, -Int.ofNat_toNat, -getElem?_pos, er70_0, er70_1, er70_2, er70_3, er70_4, er70_5, er70_6, er70_7, er70_9, l1, l2, hl, hlt', hlt2, a1, a2, b1, b2, d1.closed, d2.closed, d1.one, d2.one, cS, hne, PDX_eq, resK, resVs, resV, pack]
    · have hlt' : ¬ (i : Int) < ys.length := by omega
      have e : xs = ys := by rw [List.take_of_length_le (by omega), List.take_of_length_le (by omega)] at he; exact he
      simp [-List.getD_eq_getElem?_getD, -Int.ofNat_toNat, -getElem?_pos, er70_0, er70_1, er70_2, er70_3, er70_4, er70_5, er70_6, er70_7, er70_9, l1, l2, hl, hlt', e, resK, resVs, resV, pack]
      try omega
  · have hne : ¬ xs = ys := fun e => hl (by rw [e])
    have hl' : ¬ (xs.length : Int) = ys.length := by omega
    simp [-List.getD_eq_getElem?_getD, -Int.ofNat_toNat, -getElem?_pos, er70_0, er70_1, er70_2, er70_3, er70_4, er70_5, er70_6, er70_7, er70_9, l1, l2, hl, hl', hne, resK, resVs, resV, pack]
end Go.Ai.G
/- Joins, as an equivalence; how many classes there are. -/
namespace Go.Ai.G
open Go.Ai
set_option maxRecDepth 100000
set_option linter.unusedSimpArgs false
set_option linter.unusedVariables false
variable {A : AProg} {φ : Nat → Nat}
/-- What joins make one. -/
inductive Cn (ps : List (Nat × Nat)) : Nat → Nat → Prop where
  | of {a b : Nat} (h : (a, b) ∈ ps) : Cn ps a b
  | refl (a : Nat) : Cn ps a a
  | symm {a b : Nat} (h : Cn ps a b) : Cn ps b a
  | trans {a b c : Nat} (h : Cn ps a b) (k : Cn ps b c) : Cn ps a c
theorem Cn.mono {ps qs : List (Nat × Nat)} (h : ∀ a b, (a, b) ∈ ps → Cn qs a b) : ∀ {a b : Nat}, Cn ps a b → Cn qs a b := by
  intro a b hc
  induction hc with
  | of hm => exact h _ _ hm
  | refl a => exact .refl a
  | symm _ ih => exact .symm ih
  | trans _ _ ih1 ih2 => exact .trans ih1 ih2
theorem Cn.fn {α : Type} {ps : List (Nat × Nat)} (f : Nat → α) (h : ∀ a b, (a, b) ∈ ps → f a = f b) : ∀ {a b : Nat}, Cn ps a b → f a = f b := by
  intro a b hc
  induction hc with
  | of hm => exact h _ _ hm
  | refl a => rfl
  | symm _ ih => exact ih.symm
  | trans _ _ ih1 ih2 => exact ih1.trans ih2
def Joined (N : Nat) (ps : List (Nat × Nat)) (r : Nat → Nat) : Prop := (∀ i j, Cn ps i j → r i = r j) ∧ ∀ i j, i < N → j < N → r i = r j → Cn ps i j
def rootsN (N : Nat) (r : Nat → Nat) : Nat := ((List.range N).filter fun i => decide (r i = i)).length
theorem rep_facts {N : Nat} {r : Nat → Nat} {up : List Int} (h : Rep N r up) : (∀ i, i < N → r i < N) ∧ ∀ i, i < N → r (r i) = r i := by
  obtain ⟨d, D, _⟩ := h
  exact ⟨D.rlt, D.rr⟩
theorem roots_cls {N : Nat} {r : Nat → Nat} (hlt : ∀ i, i < N → r i < N) (hrr : ∀ i, i < N → r (r i) = r i) : rootsN N r = (cls r N).length := by
  have hne : ∀ i, i < N → gcl r N (r i) ≠ [] := fun i hi h => by
    have : (i : Int) ∈ gcl r N (r i) := (gcl_mem _ _ _ _).2 ⟨i, hi, rfl, rfl⟩
    rw [h] at this; simp at this
  unfold rootsN cls
  rw [List.length_map]
  have e1 : (((List.range N).filter fun i => decide (r i = i)).map fun i => (ghd (gcl r N (r i))).toNat).length = ((List.range N).filter fun i => decide (r i = i)).length := List.length_map ..
  rw [← e1]
  refine len_of_mem _ _ ?_ ((List.nodup_range).filter _) fun x => ?_
  · rw [List.Nodup, List.pairwise_map]
    refine List.Pairwise.imp_of_mem ?_ ((List.nodup_range (n := N)).filter _)
    intro a b ha hb hab he
    simp only [List.mem_filter, List.mem_range, decide_eq_true_eq] at ha hb
    obtain ⟨i, h1, h2, h3⟩ := (gcl_mem _ _ _ _).1 (ghd_mem (hne a ha.1))
    obtain ⟨j, h4, h5, h6⟩ := (gcl_mem _ _ _ _).1 (ghd_mem (hne b hb.1))
    have : i = j := by omega
    subst this
    apply hab
    have : r a = r b := by omega
    rw [ha.2, hb.2] at this; exact this
  · simp only [List.mem_map, List.mem_filter, List.mem_range, decide_eq_true_eq]
    constructor
    · rintro ⟨i, ⟨h1, h2⟩, rfl⟩
      obtain ⟨j, h3, h4, h5⟩ := (gcl_mem _ _ _ _).1 (ghd_mem (hne i h1))
      have e : (ghd (gcl r N (r i))).toNat = j := by omega
      rw [e]
      refine ⟨h3, ?_⟩
      rw [h4, h5]
    · rintro ⟨h1, h2⟩
      refine ⟨r x, ⟨hlt x h1, hrr x h1⟩, ?_⟩
      rw [hrr x h1, h2]; omega
theorem roots_step {N : Nat} {r r' : Nat → Nat} (hlt : ∀ i, i < N → r i < N) (hrr : ∀ i, i < N → r (r i) = r i) {a c : Int} {cnt cnt' : Int} {ok : Bool} (hj : JoinR N r r' a c ok cnt cnt') (hc : cnt = rootsN N r) : cnt' = rootsN N r' := by
  cases ok with
  | false =>
    obtain ⟨rfl, rfl⟩ := hj.no rfl
    exact hc
  | true =>
    obtain ⟨rfl, x, y, hxy, hor, rfl⟩ := hj.yes rfl
    have hv := of_decide_eq_true hj.val.symm
    obtain ⟨⟨a1, a2⟩, ⟨c1, c2⟩, _⟩ := hv
    have hx : x < N ∧ r x = x := by
      rcases hor with ⟨rfl, rfl⟩ | ⟨rfl, rfl⟩ <;> exact ⟨hlt _ (by omega), hrr _ (by omega)⟩
    have hy : y < N ∧ r y = y := by
      rcases hor with ⟨rfl, rfl⟩ | ⟨rfl, rfl⟩ <;> exact ⟨hlt _ (by omega), hrr _ (by omega)⟩
    have hn : (y :: (List.range N).filter fun i => decide ((if r i = y then x else r i) = i)).length = ((List.range N).filter fun i => decide (r i = i)).length := by
      refine len_of_mem _ _ ?_ ((List.nodup_range).filter _) fun z => ?_
      · rw [List.nodup_cons]
        refine ⟨fun hm => ?_, (List.nodup_range).filter _⟩
        simp only [List.mem_filter, List.mem_range, decide_eq_true_eq] at hm
        rw [if_pos hy.2] at hm
        exact hxy hm.2
      · simp only [List.mem_cons, List.mem_filter, List.mem_range, decide_eq_true_eq]
        constructor
        · rintro (rfl | ⟨h1, h2⟩)
          · exact hy
          · refine ⟨h1, ?_⟩
            by_cases e : r z = y
            · rw [if_pos e] at h2
              subst h2
              exact hx.2
            · rw [if_neg e] at h2; exact h2
        · rintro ⟨h1, h2⟩
          by_cases e : z = y
          · exact .inl e
          · refine .inr ⟨h1, ?_⟩
            rw [if_neg (by rw [h2]; exact e)]; exact h2
    simp only [List.length_cons] at hn
    have hg : rootsN N (fun i => if r i = y then x else r i) = ((List.range N).filter fun i => decide ((if r i = y then x else r i) = i)).length := rfl
    rw [hg]
    unfold rootsN at hc
    omega
/-- A Part in the memory behind these joins. -/
def PSJ (H : Heap) (b bu bs N : Nat) (ps : List (Nat × Nat)) : Prop := ∃ r cnt, PS H b bu bs N r cnt ∧ Joined N ps r ∧ cnt = (rootsN N r : Nat)
theorem roots_le (N : Nat) (r : Nat → Nat) : rootsN N r ≤ N := by
  unfold rootsN
  exact Nat.le_trans (List.length_filter_le _ _) (by simp)
theorem roots_id (N : Nat) : rootsN N id = N := by
  unfold rootsN
  rw [List.filter_eq_self.2 (by simp)]; simp
end Go.Ai.G
/- PartOrder. -/
namespace Go.Ai.G
open Go.Ai
set_option maxRecDepth 100000
set_option linter.unusedSimpArgs false
set_option linter.unusedVariables false
variable {A : AProg} {φ : Nat → Nat}
attribute [local simp ↓] getD_z getD_s hid_k hid_o hid_q hid_v PO_nil PO_none PO_grd PD_nil PD_none PD_grd PDO_N PDO_X PDO_call PDO_calli PDO_callv PStep_N PStep_X PStep_call PStep_calli PC_skip PC_lab
  PC_ret PC_exit PC_reg PC_draw PC_seq PC_block PC_loop PC_scope PC_cond thenC_norm thenC_ret thenC_exit blockC_norm blockC_ret blockC_exit loopC_norm loopC_ret loopC_exit endR_ret
  endR_norm
attribute [local simp] gz PDX_free PDX_eq PStep_callv resK_none resK_t resK_tt KNO_val KNO_new KNO_ite KNO_map KXO_some KXO_ite KVA_t KVA_f KG_skip KG_tt KG_ff KG_tf KG_ft KB_true KB_false KNOD_val
  KNOD_new KNOD_ite n_mv n_pick n_bin n_eqB n_eqN n_eqS n_un n_conv n_fadd n_faddV n_fld1 n_fldN n_idx n_idxA n_idxV n_idxAV n_ext n_lenS n_lenS0 n_lenV n_lenT n_lenA n_min n_max
  n_build n_mkfn n_slc n_slc0 n_slcV n_slcA n_load1 n_loadN n_load1V n_loadNV n_alloc n_box n_bsl n_mksl n_nilcP n_nilcV n_nilcI n_nilcF x_store x_clear0 x_clear b_add b_sub b_mul
  b_eql b_neq b_lss b_leq b_gtr b_geq b_and16 unV ntouch gather hide unhide evalOpd applyOuts int_bne int_beq ite_bool ite_int one_bool cells_bool one_int cells_int one_str cells_str
  one_nilp cells_nilp one_ptr cells_ptr one_nils cells_nils one_sl cells_sl one_nilf cells_nilf one_fn cells_fn one_nili cells_nili one_mp cells_mp one_nilm cells_nilm one_iface
  cells_iface one_vs cells_vs one_vp cells_vp cells_agg Nat.testBit setAt_1 setAt_2 closeds_nil closeds_cons closed_bool closed_int closed_str closed_nilp closed_nils closed_nilm
  closed_nilf closed_nili closed_agg closed_tup closed_vs closed_vp closed_iface closed_fn closeds_cI closeds_cE viewA_closed viewR_closed AV.scal AV.scal0 fillA repA part_bool
  part_int part_str part_nilp part_ptr part_nils part_sl part_nilm part_mp part_nilf part_fn part_nili part_iface part_agg part_vs part_vp viewA_sl1 vaSl_cells wrap_0 wrap_1 wrap_2
  wrap_m1 set_last get_last
/-- What the laws on part ask of the functions. -/
structure SP (A : AProg) (φ : Nat → Nat) : Prop where
  new : Has A (φ 60) (f60 φ)
  is : Has A (φ 80) (f80 φ)
  top : Has A (φ 81) (f81 φ)
  join : Has A (φ 64) (f64 φ)
  same : Has A (φ 62) (f62 φ)
  count : Has A (φ 66) (f66 φ)
  classes : A.ext (φ 68) = some clsExt
  rows : ∀ v u xs ys, IsRows v xs → IsRows u ys → xs.length < 1000000 → (∀ l ∈ xs, l.length < 1000000) → PVal A (φ 70) [v, u] (.bool (decide (xs = ys)))
def rd (N : Int) (x : Int) : Nat := ((x % 65536).tmod N).toNat
theorem rd_spec {N : Int} (hN : 0 < N) (x : Int) : binV .rem (.int .i64 (x % 65536)) (.int .i64 N) = some (.int .i64 (rd N x : Nat)) ∧ (rd N x : Int) < N := by
  have h : 0 ≤ (x % 65536).tmod N ∧ (x % 65536).tmod N < N := by
    rw [Int.tmod_eq_emod_of_nonneg (Int.emod_nonneg _ (by decide))]
    exact ⟨Int.emod_nonneg _ (by omega), Int.emod_lt_of_pos _ hN⟩
  have e : ((rd N x : Nat) : Int) = (x % 65536).tmod N := by unfold rd; omega
  rw [e]
  exact ⟨b_rem _ _ _ (by omega), h.2⟩
theorem cls_len {N : Nat} {r : Nat → Nat} : (cls r N).length ≤ N ∧ ∀ l ∈ cls r N, l.length ≤ N := by
  unfold cls
  refine ⟨?_, fun l hl => ?_⟩
  · rw [List.length_map]; exact Nat.le_trans (List.length_filter_le _ _) (by simp)
  · obtain ⟨i, _, rfl⟩ := List.mem_map.1 hl
    exact gcl_len _ _ _
theorem PS.keep {H H' : Heap} {b bu bs N : Nat} {r : Nat → Nat} {cnt : Int} (p : PS H b bu bs N r cnt) (h : ∀ k, k = b ∨ k = bu ∨ k = bs → H'[k]? = H[k]?) : PS H' b bu bs N r cnt := by
  obtain ⟨up, sz, pa, hr⟩ := p
  exact ⟨up, sz, ⟨(h b (.inl rfl)).trans pa.hb, (h bu (.inr (.inl rfl))).trans pa.hu, (h bs (.inr (.inr rfl))).trans pa.hs, pa.lu, pa.ls, pa.ne⟩, hr⟩
theorem PSJ.keep {H H' : Heap} {b bu bs N : Nat} {ps : List (Nat × Nat)} (p : PSJ H b bu bs N ps) (h : ∀ k, k = b ∨ k = bu ∨ k = bs → H'[k]? = H[k]?) : PSJ H' b bu bs N ps := by
  obtain ⟨r, cnt, p, j⟩ := p
  exact ⟨r, cnt, p.keep h, j⟩
end Go.Ai.G
/- PartCounts. -/
namespace Go.Ai.G
open Go.Ai
set_option maxRecDepth 100000
set_option linter.unusedSimpArgs false
set_option linter.unusedVariables false
variable {A : AProg} {φ : Nat → Nat}
attribute [local simp ↓] getD_z getD_s hid_k hid_o hid_q hid_v PO_nil PO_none PO_grd PD_nil PD_none PD_grd PDO_N PDO_X PDO_call PDO_calli PDO_callv PStep_N PStep_X PStep_call PStep_calli PC_skip PC_lab
  PC_ret PC_exit PC_reg PC_draw PC_seq PC_block PC_loop PC_scope PC_cond thenC_norm thenC_ret thenC_exit blockC_norm blockC_ret blockC_exit loopC_norm loopC_ret loopC_exit endR_ret
  endR_norm
attribute [local simp] gz PDX_free PDX_eq PStep_callv resK_none resK_t resK_tt KNO_val KNO_new KNO_ite KNO_map KXO_some KXO_ite KVA_t KVA_f KG_skip KG_tt KG_ff KG_tf KG_ft KB_true KB_false KNOD_val
  KNOD_new KNOD_ite n_mv n_pick n_bin n_eqB n_eqN n_eqS n_un n_conv n_fadd n_faddV n_fld1 n_fldN n_idx n_idxA n_idxV n_idxAV n_ext n_lenS n_lenS0 n_lenV n_lenT n_lenA n_min n_max
  n_build n_mkfn n_slc n_slc0 n_slcV n_slcA n_load1 n_loadN n_load1V n_loadNV n_alloc n_box n_bsl n_mksl n_nilcP n_nilcV n_nilcI n_nilcF x_store x_clear0 x_clear b_add b_sub b_mul
  b_eql b_neq b_lss b_leq b_gtr b_geq b_and16 unV ntouch gather hide unhide evalOpd applyOuts int_bne int_beq ite_bool ite_int one_bool cells_bool one_int cells_int one_str cells_str
  one_nilp cells_nilp one_ptr cells_ptr one_nils cells_nils one_sl cells_sl one_nilf cells_nilf one_fn cells_fn one_nili cells_nili one_mp cells_mp one_nilm cells_nilm one_iface
  cells_iface one_vs cells_vs one_vp cells_vp cells_agg Nat.testBit setAt_1 setAt_2 closeds_nil closeds_cons closed_bool closed_int closed_str closed_nilp closed_nils closed_nilm
  closed_nilf closed_nili closed_agg closed_tup closed_vs closed_vp closed_iface closed_fn closeds_cI closeds_cE viewA_closed viewR_closed AV.scal AV.scal0 fillA repA part_bool
  part_int part_str part_nilp part_ptr part_nils part_sl part_nilm part_mp part_nilf part_fn part_nili part_iface part_agg part_vs part_vp viewA_sl1 vaSl_cells wrap_0 wrap_1 wrap_2
  wrap_m1 set_last get_last
theorem er76_0 (φ : Nat → Nat) : r76_0 φ = [
  ⟨0, .N .mv, [.c (.bool false)], none, 0⟩] := Eq.trans rfl rfl
theorem er76_1 (φ : Nat → Nat) : r76_1 φ = [
  ⟨0, .calli true (φ 59), [], none, 0⟩,
  ⟨1, .N .mv, [.l 0], none, 0⟩] := Eq.trans rfl rfl
theorem er76_2 (φ : Nat → Nat) : r76_2 φ = [
  ⟨0, .N .mv, [.n 0], none, 0⟩,
  ⟨1, .N (.bin .and), [.l 0, .c (.int .i64 65535)], none, 0⟩,
  ⟨2, .N (.bin .rem), [.l 0, .c (.int .i64 60)], none, 0⟩,
  ⟨3, .N (.bin .add), [.c (.int .i64 1), .l 0], none, 0⟩,
  ⟨4, .N .mv, [.l 0], none, 0⟩] := Eq.trans rfl rfl
theorem er76_3 (φ : Nat → Nat) : r76_3 φ = [
  ⟨0, .N .mv, [.n 0], none, 0⟩,
  ⟨1, .call (φ 60), [.l 0], none, 0⟩,
  ⟨2, .N .mv, [.l 0], none, 0⟩] := Eq.trans rfl rfl
theorem er76_4 (φ : Nat → Nat) : r76_4 φ = [
  ⟨0, .N .mv, [.n 4], none, 0⟩,
  ⟨1, .N (.eqN 0 false), [.l 0, .c (.nilp)], none, 0⟩] := Eq.trans rfl rfl
theorem er76_5 (φ : Nat → Nat) : r76_5 φ = [
  ⟨0, .N .mv, [.c (.bool false)], none, 0⟩] := Eq.trans rfl rfl
theorem er76_6 (φ : Nat → Nat) : r76_6 φ = [
  ⟨0, .N .mv, [.n 0], none, 0⟩,
  ⟨1, .N .mv, [.l 0], none, 0⟩] := Eq.trans rfl rfl
theorem er76_7 (φ : Nat → Nat) : r76_7 φ = [
  ⟨0, .N .mv, [.c (.int .i64 0)], none, 0⟩] := Eq.trans rfl rfl
theorem er76_8 (φ : Nat → Nat) : r76_8 φ = [
  ⟨0, .N .mv, [.n 6], none, 0⟩,
  ⟨1, .N .mv, [.n 1], none, 0⟩,
  ⟨2, .N .lenS, [.l 0], none, 0⟩,
  ⟨3, .N (.bin .lss), [.l 2, .l 0], none, 0⟩,
  ⟨4, .N .mv, [.l 0], none, 0⟩,
  ⟨5, .N .mv, [.n 6], some (.l 0, true), 0⟩,
  ⟨6, .N (.bin .lss), [.l 0, .c (.int .i64 60)], some (.l 1, true), 0⟩,
  ⟨7, .N .pick, [.l 2, .l 0, .c (.bool false)], none, 0⟩] := Eq.trans rfl rfl
theorem er76_9 (φ : Nat → Nat) : r76_9 φ = [
  ⟨0, .N .mv, [.n 1], none, 0⟩,
  ⟨1, .N .mv, [.n 6], none, 0⟩,
  ⟨2, .N (.idx 2), [.l 1, .l 0], none, 0⟩,
  ⟨3, .N (.fadd 0), [.l 0], none, 0⟩,
  ⟨4, .N .load1, [.l 0], none, 0⟩,
  ⟨5, .N (.bin .and), [.l 0, .c (.int .i64 65535)], none, 0⟩,
  ⟨6, .N .mv, [.n 0], none, 0⟩,
  ⟨7, .N (.bin .rem), [.l 1, .l 0], none, 0⟩,
  ⟨8, .N .mv, [.l 0], none, 0⟩] := Eq.trans rfl rfl
theorem er76_10 (φ : Nat → Nat) : r76_10 φ = [
  ⟨0, .N .mv, [.n 1], none, 0⟩,
  ⟨1, .N .mv, [.n 6], none, 0⟩,
  ⟨2, .N (.idx 2), [.l 1, .l 0], none, 0⟩,
  ⟨3, .N (.fadd 1), [.l 0], none, 0⟩,
  ⟨4, .N .load1, [.l 0], none, 0⟩,
  ⟨5, .N (.bin .and), [.l 0, .c (.int .i64 65535)], none, 0⟩,
  ⟨6, .N .mv, [.n 0], none, 0⟩,
  ⟨7, .N (.bin .rem), [.l 1, .l 0], none, 0⟩,
  ⟨8, .N .mv, [.l 0], none, 0⟩] := Eq.trans rfl rfl
theorem er76_11 (φ : Nat → Nat) : r76_11 φ = [
  ⟨0, .N .mv, [.n 4], none, 0⟩,
  ⟨1, .N .mv, [.n 7], none, 0⟩,
  ⟨2, .N .mv, [.n 8], none, 0⟩,
  ⟨3, .call (φ 62), [.l 2, .l 1, .l 0], none, 0⟩,
  ⟨4, .N .mv, [.l 0], none, 0⟩] := Eq.trans rfl rfl
theorem er76_12 (φ : Nat → Nat) : r76_12 φ = [
  ⟨0, .N .mv, [.n 4], none, 0⟩,
  ⟨1, .N .mv, [.n 7], none, 0⟩,
  ⟨2, .N .mv, [.n 8], none, 0⟩,
  ⟨3, .call (φ 64), [.l 2, .l 1, .l 0], none, 0⟩,
  ⟨4, .N .mv, [.l 0], none, 0⟩] := Eq.trans rfl rfl
theorem er76_13 (φ : Nat → Nat) : r76_13 φ = [
  ⟨0, .N .mv, [.n 9], none, 0⟩,
  ⟨1, .N .mv, [.n 10], none, 0⟩,
  ⟨2, .N (.eqB false), [.l 1, .l 0], none, 0⟩,
  ⟨3, .N .mv, [.l 0], none, 0⟩,
  ⟨4, .N .mv, [.n 4], some (.l 0, false), 0⟩,
  ⟨5, .N .mv, [.n 7], some (.l 1, false), 0⟩,
  ⟨6, .N .mv, [.n 8], some (.l 2, false), 0⟩,
  ⟨7, .call (φ 62), [.l 2, .l 1, .l 0], some (.l 3, false), 0⟩,
  ⟨8, .N (.un .not), [.l 0], some (.l 4, false), 0⟩,
  ⟨9, .N .pick, [.l 5, .c (.bool true), .l 0], none, 0⟩] := Eq.trans rfl rfl
theorem er76_14 (φ : Nat → Nat) : r76_14 φ = [
  ⟨0, .N .mv, [.c (.bool false)], none, 0⟩] := Eq.trans rfl rfl
theorem er76_15 (φ : Nat → Nat) : r76_15 φ = [
  ⟨0, .N .mv, [.n 6], none, 0⟩,
  ⟨1, .N (.bin .add), [.l 0, .c (.int .i64 1)], none, 0⟩,
  ⟨2, .N .mv, [.l 0], none, 0⟩] := Eq.trans rfl rfl
theorem er76_17 (φ : Nat → Nat) : r76_17 φ = [
  ⟨0, .N .mv, [.n 4], none, 0⟩,
  ⟨1, .call (φ 68), [.l 0], none, 0⟩,
  ⟨2, .N .mv, [.l 0], none, 0⟩] := Eq.trans rfl rfl
theorem er76_18 (φ : Nat → Nat) : r76_18 φ = [
  ⟨0, .N .mv, [.n 0], none, 0⟩,
  ⟨1, .N (.mksl [.bool false] 1 1), [.l 0, .l 0], none, 0⟩,
  ⟨2, .N .mv, [.l 0], none, 0⟩] := Eq.trans rfl rfl
theorem er76_19 (φ : Nat → Nat) : r76_19 φ = [
  ⟨0, .N .mv, [.c (.int .i64 (-1))], none, 0⟩] := Eq.trans rfl rfl
theorem er76_20 (φ : Nat → Nat) : r76_20 φ = [
  ⟨0, .N .mv, [.c (.int .i64 0)], none, 0⟩] := Eq.trans rfl rfl
theorem er76_21 (φ : Nat → Nat) : r76_21 φ = [
  ⟨0, .N .mv, [.n 14], none, 0⟩,
  ⟨1, .N .mv, [.n 11], none, 0⟩,
  ⟨2, .N .lenS, [.l 0], none, 0⟩,
  ⟨3, .N (.bin .lss), [.l 2, .l 0], none, 0⟩] := Eq.trans rfl rfl
theorem er76_22 (φ : Nat → Nat) : r76_22 φ = [
  ⟨0, .N .mv, [.n 11], none, 0⟩,
  ⟨1, .N .mv, [.n 14], none, 0⟩,
  ⟨2, .N (.idx 1), [.l 1, .l 0], none, 0⟩,
  ⟨3, .N .load1, [.l 0], none, 0⟩,
  ⟨4, .N .lenS, [.l 0], none, 0⟩,
  ⟨5, .N (.bin .eql), [.l 0, .c (.int .i64 0)], none, 0⟩,
  ⟨6, .N .mv, [.l 0], none, 0⟩,
  ⟨7, .N .mv, [.n 11], some (.l 0, false), 0⟩,
  ⟨8, .N .mv, [.n 14], some (.l 1, false), 0⟩,
  ⟨9, .N (.idx 1), [.l 1, .l 0], some (.l 2, false), 0⟩,
  ⟨10, .N .load1, [.l 0], some (.l 3, false), 0⟩,
  ⟨11, .N (.idx 1), [.l 0, .c (.int .i64 0)], some (.l 4, false), 0⟩,
  ⟨12, .N .load1, [.l 0], some (.l 5, false), 0⟩,
  ⟨13, .N .mv, [.n 13], some (.l 6, false), 0⟩,
  ⟨14, .N (.bin .leq), [.l 1, .l 0], some (.l 7, false), 0⟩,
  ⟨15, .N .pick, [.l 8, .c (.bool true), .l 0], none, 0⟩] := Eq.trans rfl rfl
theorem er76_23 (φ : Nat → Nat) : r76_23 φ = [
  ⟨0, .N .mv, [.c (.bool false)], none, 0⟩] := Eq.trans rfl rfl
theorem er76_24 (φ : Nat → Nat) : r76_24 φ = [
  ⟨0, .N .mv, [.n 11], none, 0⟩,
  ⟨1, .N .mv, [.n 14], none, 0⟩,
  ⟨2, .N (.idx 1), [.l 1, .l 0], none, 0⟩,
  ⟨3, .N .load1, [.l 0], none, 0⟩,
  ⟨4, .N (.idx 1), [.l 0, .c (.int .i64 0)], none, 0⟩,
  ⟨5, .N .load1, [.l 0], none, 0⟩,
  ⟨6, .N .mv, [.l 0], none, 0⟩] := Eq.trans rfl rfl
theorem er76_25 (φ : Nat → Nat) : r76_25 φ = [
  ⟨0, .N .mv, [.c (.int .i64 0)], none, 0⟩] := Eq.trans rfl rfl
theorem er76_26 (φ : Nat → Nat) : r76_26 φ = [
  ⟨0, .N .mv, [.n 15], none, 0⟩,
  ⟨1, .N .mv, [.n 11], none, 0⟩,
  ⟨2, .N .mv, [.n 14], none, 0⟩,
  ⟨3, .N (.idx 1), [.l 1, .l 0], none, 0⟩,
  ⟨4, .N .load1, [.l 0], none, 0⟩,
  ⟨5, .N .lenS, [.l 0], none, 0⟩,
  ⟨6, .N (.bin .lss), [.l 5, .l 0], none, 0⟩] := Eq.trans rfl rfl
theorem er76_27 (φ : Nat → Nat) : r76_27 φ = [
  ⟨0, .N .mv, [.n 11], none, 0⟩,
  ⟨1, .N .mv, [.n 14], none, 0⟩,
  ⟨2, .N (.idx 1), [.l 1, .l 0], none, 0⟩,
  ⟨3, .N .load1, [.l 0], none, 0⟩,
  ⟨4, .N .mv, [.n 15], none, 0⟩,
  ⟨5, .N (.idx 1), [.l 1, .l 0], none, 0⟩,
  ⟨6, .N .load1, [.l 0], none, 0⟩,
  ⟨7, .N .mv, [.l 0], none, 0⟩] := Eq.trans rfl rfl
theorem er76_28 (φ : Nat → Nat) : r76_28 φ = [
  ⟨0, .N .mv, [.n 16], none, 0⟩,
  ⟨1, .N (.bin .lss), [.l 0, .c (.int .i64 0)], none, 0⟩,
  ⟨2, .N .mv, [.l 0], none, 0⟩,
  ⟨3, .N .mv, [.n 16], some (.l 0, false), 0⟩,
  ⟨4, .N .mv, [.n 0], some (.l 1, false), 0⟩,
  ⟨5, .N (.bin .geq), [.l 1, .l 0], some (.l 2, false), 0⟩,
  ⟨6, .N .pick, [.l 3, .c (.bool true), .l 0], none, 0⟩,
  ⟨7, .N .mv, [.l 0], none, 0⟩,
  ⟨8, .N .mv, [.n 12], some (.l 0, false), 0⟩,
  ⟨9, .N .mv, [.n 16], some (.l 1, false), 0⟩,
  ⟨10, .N (.idx 1), [.l 1, .l 0], some (.l 2, false), 0⟩,
  ⟨11, .N .load1, [.l 0], some (.l 3, false), 0⟩,
  ⟨12, .N .pick, [.l 4, .c (.bool true), .l 0], none, 0⟩,
  ⟨13, .N .mv, [.l 0], none, 0⟩,
  ⟨14, .N .mv, [.n 15], some (.l 0, false), 0⟩,
  ⟨15, .N (.bin .gtr), [.l 0, .c (.int .i64 0)], some (.l 1, false), 0⟩,
  ⟨16, .N .mv, [.l 0], some (.l 2, false), 0⟩,
  ⟨17, .N .mv, [.n 16], some (.l 0, true), 0⟩,
  ⟨18, .N .mv, [.n 11], some (.l 1, true), 0⟩,
  ⟨19, .N .mv, [.n 14], some (.l 2, true), 0⟩,
  ⟨20, .N (.idx 1), [.l 1, .l 0], some (.l 3, true), 0⟩,
  ⟨21, .N .load1, [.l 0], some (.l 4, true), 0⟩,
  ⟨22, .N .mv, [.n 15], some (.l 5, true), 0⟩,
  ⟨23, .N (.bin .sub), [.l 0, .c (.int .i64 1)], some (.l 6, true), 0⟩,
  ⟨24, .N (.idx 1), [.l 2, .l 0], some (.l 7, true), 0⟩,
  ⟨25, .N .load1, [.l 0], some (.l 8, true), 0⟩,
  ⟨26, .N (.bin .leq), [.l 8, .l 0], some (.l 9, true), 0⟩,
  ⟨27, .N .pick, [.l 10, .l 0, .c (.bool false)], some (.l 13, false), 0⟩,
  ⟨28, .N .pick, [.l 14, .c (.bool true), .l 0], none, 0⟩,
  ⟨29, .N .mv, [.l 0], none, 0⟩,
  ⟨30, .N .mv, [.n 4], some (.l 0, false), 0⟩,
  ⟨31, .N .mv, [.n 16], some (.l 1, false), 0⟩,
  ⟨32, .N .mv, [.n 13], some (.l 2, false), 0⟩,
  ⟨33, .call (φ 62), [.l 2, .l 1, .l 0], some (.l 3, false), 0⟩,
  ⟨34, .N (.un .not), [.l 0], some (.l 4, false), 0⟩,
  ⟨35, .N .pick, [.l 5, .c (.bool true), .l 0], none, 0⟩] := Eq.trans rfl rfl
theorem er76_29 (φ : Nat → Nat) : r76_29 φ = [
  ⟨0, .N .mv, [.c (.bool false)], none, 0⟩] := Eq.trans rfl rfl
theorem er76_30 (φ : Nat → Nat) : r76_30 φ = [
  ⟨0, .N .mv, [.n 12], none, 0⟩,
  ⟨1, .N .mv, [.n 16], none, 0⟩,
  ⟨2, .N (.idx 1), [.l 1, .l 0], none, 0⟩,
  ⟨3, .X (.store 1), [.l 0, .c (.bool true)], none, 0⟩] := Eq.trans rfl rfl
theorem er76_31 (φ : Nat → Nat) : r76_31 φ = [
  ⟨0, .N .mv, [.n 5], none, 0⟩,
  ⟨1, .N (.bin .sub), [.l 0, .c (.int .i64 1)], none, 0⟩,
  ⟨2, .N .mv, [.l 0], none, 0⟩] := Eq.trans rfl rfl
theorem er76_32 (φ : Nat → Nat) : r76_32 φ = [
  ⟨0, .N .mv, [.n 15], none, 0⟩,
  ⟨1, .N (.bin .add), [.l 0, .c (.int .i64 1)], none, 0⟩,
  ⟨2, .N .mv, [.l 0], none, 0⟩] := Eq.trans rfl rfl
theorem er76_34 (φ : Nat → Nat) : r76_34 φ = [
  ⟨0, .N .mv, [.n 14], none, 0⟩,
  ⟨1, .N (.bin .add), [.l 0, .c (.int .i64 1)], none, 0⟩,
  ⟨2, .N .mv, [.l 0], none, 0⟩] := Eq.trans rfl rfl
theorem er76_36 (φ : Nat → Nat) : r76_36 φ = [
  ⟨0, .N .mv, [.n 3], none, 0⟩,
  ⟨1, .N .mv, [.l 0], none, 0⟩,
  ⟨2, .N .mv, [.n 5], some (.l 0, true), 0⟩,
  ⟨3, .N (.bin .eql), [.l 0, .c (.int .i64 0)], some (.l 1, true), 0⟩,
  ⟨4, .N .pick, [.l 2, .l 0, .c (.bool false)], none, 0⟩,
  ⟨5, .N .mv, [.l 0], none, 0⟩,
  ⟨6, .N .mv, [.n 11], some (.l 0, true), 0⟩,
  ⟨7, .N .lenS, [.l 0], some (.l 1, true), 0⟩,
  ⟨8, .N .mv, [.n 4], some (.l 2, true), 0⟩,
  ⟨9, .call (φ 66), [.l 0], some (.l 3, true), 0⟩,
  ⟨10, .N (.bin .eql), [.l 2, .l 0], some (.l 4, true), 0⟩,
  ⟨11, .N .pick, [.l 5, .l 0, .c (.bool false)], none, 0⟩,
  ⟨12, .N .mv, [.l 0], none, 0⟩] := Eq.trans rfl rfl
theorem gcl_ne {r : Nat → Nat} {N i : Nat} (hi : i < N) : gcl r N (r i) ≠ [] := fun h => by
  have : (i : Int) ∈ gcl r N (r i) := (gcl_mem _ _ _ _).2 ⟨i, hi, rfl, rfl⟩
  rw [h] at this; simp at this
theorem cls_heads (r : Nat → Nat) (N : Nat) : (cls r N).Pairwise fun a b => ghd a < ghd b := by
  unfold cls
  rw [List.pairwise_map]
  refine List.Pairwise.imp_of_mem ?_ ((List.pairwise_lt_range (n := N)).filter _)
  intro a b ha hb hab
  simp only [List.mem_filter, List.mem_range, decide_eq_true_eq] at ha hb
  rw [ha.2, hb.2]; omega
theorem cls_rowok (r : Nat → Nat) (N : Nat) : ∀ l ∈ cls r N, l ≠ [] ∧ l.Pairwise (· < ·) ∧ ∃ x : Int, ∀ z, z ∈ l ↔ ∃ i : Nat, i < N ∧ (r i : Int) = x ∧ z = (i : Int) := by
  intro l hl
  unfold cls at hl
  obtain ⟨i, hi, rfl⟩ := List.mem_map.1 hl
  simp only [List.mem_filter, List.mem_range] at hi
  exact ⟨gcl_ne hi.1, gcl_sorted _ _ _, _, fun z => gcl_mem _ _ _ _⟩
theorem cls_nodup (r : Nat → Nat) (N : Nat) : (cls r N).flatten.Nodup := by
  rw [List.Nodup, List.pairwise_flatten]
  refine ⟨fun l hl => (cls_rowok r N l hl).2.1.imp fun h => by omega, ?_⟩
  unfold cls
  rw [List.pairwise_map]
  refine List.Pairwise.imp_of_mem ?_ ((List.pairwise_lt_range (n := N)).filter _)
  intro a b ha hb hab x hx y hy he
  simp only [List.mem_filter, List.mem_range, decide_eq_true_eq] at ha hb
  obtain ⟨i, h1, h2, h3⟩ := (gcl_mem _ _ _ _).1 hx
  obtain ⟨j, h4, h5, h6⟩ := (gcl_mem _ _ _ _).1 hy
  have : i = j := by omega
  subst this
  have e : (r a : Int) = r b := by omega
  have h7 := ha.2
  rw [e, hb.2] at h7
  omega
theorem cls_flat (r : Nat → Nat) (N : Nat) (x : Int) : x ∈ (cls r N).flatten ↔ 0 ≤ x ∧ x < N := by
  rw [List.mem_flatten]
  constructor
  · rintro ⟨l, hl, hx⟩
    obtain ⟨_, _, y, hy⟩ := cls_rowok r N l hl
    obtain ⟨i, h1, _, rfl⟩ := (hy x).1 hx
    omega
  · rintro ⟨h1, h2⟩
    obtain ⟨j, rfl⟩ : ∃ j : Nat, x = (j : Int) := ⟨x.toNat, by omega⟩
    have hj : j < N := by omega
    obtain ⟨i, h3, h4, h5⟩ := (gcl_mem _ _ _ _).1 (ghd_mem (gcl_ne (r := r) hj))
    refine ⟨gcl r N (r j), ?_, (gcl_mem _ _ _ _).2 ⟨j, hj, rfl, rfl⟩⟩
    unfold cls
    refine List.mem_map.2 ⟨i, ?_, by rw [h4]⟩
    simp only [List.mem_filter, List.mem_range, decide_eq_true_eq]
    exact ⟨h3, by rw [h4, h5]⟩
theorem cls_total (r : Nat → Nat) (N : Nat) : (cls r N).flatten.length = N := by
  have h : (cls r N).flatten.length = ((List.range N).map fun (i : Nat) => (i : Int)).length := by
    refine len_of_mem _ _ (cls_nodup r N) ?_ fun x => ?_
    · rw [List.Nodup, List.pairwise_map]
      exact (List.pairwise_lt_range (n := N)).imp fun h => by omega
    · rw [cls_flat, List.mem_map]
      constructor
      · rintro ⟨h1, h2⟩; exact ⟨x.toNat, List.mem_range.2 (by omega), by omega⟩
      · rintro ⟨i, hi, rfl⟩; have := List.mem_range.1 hi; omega
  rw [h]; simp
/-- Which numbers have been seen. -/
def SeenC (N : Nat) (P : List Int) (c : List AV) : Prop := c.length = N ∧ ∀ x : Nat, x < N → c[x]? = some (.bool (decide ((x : Int) ∈ P)))
theorem seen_start (N : Nat) : SeenC N [] (repA [.bool false] N) := by
  refine ⟨by rw [repA_len]; simp, fun x hx => ?_⟩
  rw [repA_repl, List.getElem?_replicate, if_pos hx]; simp
theorem seen_add {N : Nat} {P : List Int} {c : List AV} (h : SeenC N P c) {x : Nat} (hx : x < N) : SeenC N (P ++ [(x : Int)]) (c.set x (.bool true)) := by
  refine ⟨by rw [List.length_set]; exact h.1, fun y hy => ?_⟩
  rw [List.getElem?_set]
  by_cases e : x = y
  · subst e; rw [if_pos rfl, if_pos (by rw [h.1]; exact hx)]; simp
  · rw [if_neg e, h.2 y hy]
    have : ¬ (y : Int) = (x : Int) := by omega
    simp [this]
theorem join_same {N : Nat} {r r' : Nat → Nat} {a c : Nat} (ha : a < N) (hc : c < N) {cnt cnt' : Int} {ok : Bool} (hrr : ∀ i, i < N → r (r i) = r i) (j : JoinR N r r' (a : Int) (c : Int) ok cnt cnt') : sameP N r (a : Int) (c : Int) = !ok ∧ sameP N r' (a : Int) (c : Int) = true := by
  have ta : ((a : Int)).toNat = a := by omega
  have tc : ((c : Int)).toNat = c := by omega
  have i1 : inN N (a : Int) := ⟨by omega, by omega⟩
  have i2 : inN N (c : Int) := ⟨by omega, by omega⟩
  have hv := j.val
  have hs : ∀ q : Nat → Nat, sameP N q (a : Int) (c : Int) = decide (q a = q c) := fun q => by
    unfold sameP; rw [decide_eq_decide, ta, tc]
    exact ⟨fun h => h.2.2, fun h => ⟨i1, i2, h⟩⟩
  rw [hs, hs]
  rw [ta, tc] at hv
  cases ok with
  | false =>
    obtain ⟨rfl, _⟩ := j.no rfl
    have he : r' a = r' c := Decidable.byContradiction fun h => of_decide_eq_false hv.symm ⟨i1, i2, h⟩
    simp [he]
  | true =>
    have hne := (of_decide_eq_true hv.symm).2.2
    obtain ⟨_, x, y, hxy, hor, rfl⟩ := j.yes rfl
    rw [ta, tc] at hor
    refine ⟨by simp [hne], ?_⟩
    apply decide_eq_true
    show (if r a = y then x else r a) = (if r c = y then x else r c)
    rcases hor with ⟨rfl, rfl⟩ | ⟨rfl, rfl⟩
    · rw [if_neg hne, if_pos rfl]
    · rw [if_pos rfl, if_neg (fun e => hne e.symm)]
set_option maxHeartbeats 8000000 in
theorem w_PartCounts (h : Has A (φ 76) (f76 φ)) (hS : PVal A (φ 59) [] (.bool true)) (g : SP A φ) (n : Int) (v : AV) (es : List Ed) (hv : IsE v es) :
    PVal A (φ 76) [.int .i64 n, v] (.bool true) := by
  have hsh := hS.eq
  have hel := hv.len
  obtain ⟨r0, hr0⟩ := rd_spec (N := 60) (by omega) n
  generalize rd 60 n = m0 at *
  obtain ⟨N, hN⟩ : ∃ N : Nat, N = m0 + 1 := ⟨_, rfl⟩
  have hN1 : 1 ≤ N ∧ N ≤ 60 := by omega
  have hw0 : IntKind.i64.wrap (1 + (m0 : Int)) = (N : Int) := by rw [wrap_in (by omega) (by omega)]; omega
  have hcl : clampN (N : Int) = N := by unfold clampN; omega
  refine pval_has h rfl ?_
  simp only [l76_16, l76_33, l76_35, b76, f76]
  simp [-List.getD_eq_getElem?_getD, -Int.ofNat_toNat, -getElem?_pos, er76_0, er76_1, er76_2, er76_3, er76_4, er76_5, er76_6, er76_7, er76_8, er76_9, er76_10, er76_11, er76_12, er76_13, er76_14, er76_15, er76_17, er76_18, er76_19, er76_20, er76_21, er76_22, er76_23, er76_24, er76_25, er76_26, er76_27, er76_28, er76_29, er76_30, er76_31, er76_32, er76_34, er76_36, hsh, r0, hw0]
  refine w_PNew g.new (N : Int) _ _ fun H1 p1 k1 l1 => ?_
  simp only [hid_k, List.length_nil, Nat.zero_add] at *
  rw [hcl] at p1
  simp [-List.getD_eq_getElem?_getD, -Int.ofNat_toNat, -getElem?_pos, er76_0, er76_1, er76_2, er76_3, er76_4, er76_5, er76_6, er76_7, er76_8, er76_9, er76_10, er76_11, er76_12, er76_13, er76_14, er76_15, er76_17, er76_18, er76_19, er76_20, er76_21, er76_22, er76_23, er76_24, er76_25, er76_26, er76_27, er76_28, er76_29, er76_30, er76_31, er76_32, er76_34, er76_36, AV.isNilK]
  refine pc_loopI (fun m st => ∃ (i : Nat) (r : Nat → Nat) (cnt : Int) (a7 a8 a9 a10 p18 p19 : AV) (H : Heap), i + m = 60 ∧ PS H 2 0 1 N r cnt ∧ cnt = (rootsN N r : Nat) ∧ H.length = 3 ∧
    st = ([.int .i64 N, v, .bool false, .bool true, .ptr 2 0 0, .int .i64 N, .int .i64 i, a7, a8, a9, a10, .un, .un, .un, .un, .un, .un, .bool false, p18, p19, .un, .un, .un, .un], H)) 60 ⟨0, id, _, _, _, _, _, _, _, H1, by simp, p1, by rw [roots_id], l1, rfl⟩ ?_
  rintro m st ⟨i, r, cnt, a7, a8, a9, a10, p18, p19, H, hi, hp, hcn, hHl, rfl⟩
  have hrl := roots_le N r
  obtain ⟨f1, f2⟩ : (∀ i, i < N → r i < N) ∧ ∀ i, i < N → r (r i) = r i := by
    obtain ⟨up, sz, _, hr⟩ := hp
    exact rep_facts hr
  by_cases hlt : i < es.length ∧ i < 60
  · obtain ⟨hlt, h60⟩ := hlt
    have hlt' : (i : Int) < es.length := by omega
    have h60' : (i : Int) < 60 := by omega
    obtain ⟨i1, z1, z2, le1, t1⟩ := hv.at hlt
    have hw1 := wrap1 h60 (by omega)
    obtain ⟨ra, ha⟩ := rd_spec (N := (N : Int)) (by omega) es[i].1
    obtain ⟨rb, hb⟩ := rd_spec (N := (N : Int)) (by omega) es[i].2
    generalize rd N es[i].1 = a at *
    generalize rd N es[i].2 = c at *
    simp [-List.getD_eq_getElem?_getD, -Int.ofNat_toNat, -getElem?_pos, er76_0, er76_1, er76_2, er76_3, er76_4, er76_5, er76_6, er76_7, er76_8, er76_9, er76_10, er76_11, er76_12, er76_13, er76_14, er76_15, er76_17, er76_18, er76_19, er76_20, er76_21, er76_22, er76_23, er76_24, er76_25, er76_26, er76_27, er76_28, er76_29, er76_30, er76_31, er76_32, er76_34, er76_36, hel, hlt', hlt, h60, h60', i1, z1, z2, le1, t1, ra, rb]
    refine w_Same4 g.same g.is g.top hp (a : Int) (c : Int) _ fun H2 hp2 k2 l2 => ?_
    simp only [hid_k]
    simp [-List.getD_eq_getElem?_getD, -Int.ofNat_toNat, -getElem?_pos, er76_0, er76_1, er76_2, er76_3, er76_4, er76_5, er76_6, er76_7, er76_8, er76_9, er76_10, er76_11, er76_12, er76_13, er76_14, er76_15, er76_17, er76_18, er76_19, er76_20, er76_21, er76_22, er76_23, er76_24, er76_25, er76_26, er76_27, er76_28, er76_29, er76_30, er76_31, er76_32, er76_34, er76_36]
    refine w_Join g.join g.is g.top hp2 (by omega) (a : Int) (c : Int) _ fun H3 r' cnt' ok hp3 k3 l3 j => ?_
    simp only [hid_k]
    obtain ⟨e1, e2⟩ := join_same (by omega) (by omega) f2 j
    rw [e1]
    have hc2 := roots_step f1 f2 j hcn
    have hnb : ((!ok) == ok) = false := by cases ok <;> rfl
    simp [-List.getD_eq_getElem?_getD, -Int.ofNat_toNat, -getElem?_pos, er76_0, er76_1, er76_2, er76_3, er76_4, er76_5, er76_6, er76_7, er76_8, er76_9, er76_10, er76_11, er76_12, er76_13, er76_14, er76_15, er76_17, er76_18, er76_19, er76_20, er76_21, er76_22, er76_23, er76_24, er76_25, er76_26, er76_27, er76_28, er76_29, er76_30, er76_31, er76_32, er76_34, er76_36, hnb]
    refine w_Same4 g.same g.is g.top hp3 (a : Int) (c : Int) _ fun H4 hp4 k4 l4 => ?_
    simp only [hid_k]
    rw [e2]
    simp [-List.getD_eq_getElem?_getD, -Int.ofNat_toNat, -getElem?_pos, er76_0, er76_1, er76_2, er76_3, er76_4, er76_5, er76_6, er76_7, er76_8, er76_9, er76_10, er76_11, er76_12, er76_13, er76_14, er76_15, er76_17, er76_18, er76_19, er76_20, er76_21, er76_22, er76_23, er76_24, er76_25, er76_26, er76_27, er76_28, er76_29, er76_30, er76_31, er76_32, er76_34, er76_36, hw1]
    exact next_mk (m - 1) (by omega) ⟨i + 1, r', cnt', _, _, _, _, _, _, H4, by omega, hp4, hc2, by omega, rfl⟩
  · obtain ⟨rows, hrows⟩ : ∃ rows, cls r N = rows := ⟨_, rfl⟩
    have hheads := cls_heads r N
    have hrok := cls_rowok r N
    have hnd := cls_nodup r N
    have hfl := cls_flat r N
    have htot := cls_total r N
    have hcc : cnt = (rows.length : Int) := by rw [hcn, roots_cls f1 f2, hrows]
    obtain ⟨y1, _⟩ := cls_len (N := N) (r := r)
    rw [hrows] at hheads hrok hnd hfl htot y1
    have hR := isRows_v rows
    have hRlen := hR.len
    have hRat := fun (i : Nat) (h : i < rows.length) => hR.at h
    have hclose := hR.closed
    have hRone := hR.one
    have hin : ∀ l ∈ rows, ∀ z ∈ l, 0 ≤ z ∧ z < (N : Int) := fun l hl z hz => (hfl z).1 (List.mem_flatten.2 ⟨l, hl, hz⟩)
    have hend : (¬ ((i : Int) < es.length) ∧ ¬ i < es.length) ∨ ((i : Int) < es.length ∧ i < es.length ∧ ¬ (i : Int) < 60 ∧ ¬ i < 60) := by omega
    rcases hend with q | q <;>
    · simp [-List.getD_eq_getElem?_getD, -Int.ofNat_toNat, -getElem?_pos, er76_0, er76_1, er76_2, er76_3, er76_4, er76_5, er76_6, er76_7, er76_8, er76_9, er76_10, er76_11, er76_12, er76_13, er76_14, er76_15, er76_17, er76_18, er76_19, er76_20, er76_21, er76_22, er76_23, er76_24, er76_25, er76_26, er76_27, er76_28, er76_29, er76_30, er76_31, er76_32, er76_34, er76_36, hel, q]
      refine w_Classes g.classes hp (by omega) _ fun H2 hp2 k2 l2 => ?_
      simp only [hid_k]
      rw [hrows]
      generalize rowsV rows = R at *
      have l3 : H2.length = 3 := by omega
      simp [-List.getD_eq_getElem?_getD, -Int.ofNat_toNat, -getElem?_pos, er76_0, er76_1, er76_2, er76_3, er76_4, er76_5, er76_6, er76_7, er76_8, er76_9, er76_10, er76_11, er76_12, er76_13, er76_14, er76_15, er76_17, er76_18, er76_19, er76_20, er76_21, er76_22, er76_23, er76_24, er76_25, er76_26, er76_27, er76_28, er76_29, er76_30, er76_31, er76_32, er76_34, er76_36, l3]
      refine ⟨by omega, ?_⟩
      have hH0 : (H2 ++ [Ob.cells 0 false (repA [.bool false] N)])[3]? = some (.cells 0 false (repA [.bool false] N)) := by rw [← l3, get_at0]; rfl
      refine pc_loopI (fun m st => ∃ (i2 : Nat) (last lf : Int) (c : List AV) (a15 a16 p20 p21 p22 p23 : AV) (H : Heap), i2 + m = rows.length ∧ PS H 2 0 1 N r cnt ∧ H[3]? = some (.cells 0 false c) ∧ SeenC N (rows.take i2).flatten c ∧ (∀ (j : Nat) (hj : j < rows.length), i2 ≤ j → last < ghd rows[j]) ∧ lf = (N : Int) - (rows.take i2).flatten.length ∧
        st = ([.int .i64 N, v, .bool false, .bool true, .ptr 2 0 0, .int .i64 lf, .int .i64 i, a7, a8, a9, a10, R, .sl 3 0 0 N 1 N true, .int .i64 last, .int .i64 i2, a15, a16, .bool false, .bool false, p19, p20, p21, p22, p23], H)) rows.length
        ⟨0, -1, N, _, _, _, _, _, _, _, _, by simp, hp2.keep fun k hk => List.getElem?_append_left (by omega), hH0, by simpa using seen_start N, fun j hj _ => by
          obtain ⟨hne, _, _⟩ := hrok _ (List.getElem_mem hj)
          have := hin _ (List.getElem_mem hj) _ (ghd_mem hne)
          omega, by simp, rfl⟩ ?_
      rintro m st ⟨i2, last, lf, c, a15, a16, p20, p21, p22, p23, H, hi2, hpH, h3, hseen, hlast, hlf, rfl⟩
      by_cases hl2 : i2 < rows.length
      · have hl2' : (i2 : Int) < rows.length := by omega
        obtain ⟨lx, x, o1, o2, o3⟩ := hRat i2 hl2
        obtain ⟨hne, hsrt, xr, hmem⟩ := hrok _ (List.getElem_mem hl2)
        have hlastl := hlast i2 hl2 (Nat.le_refl _)
        have hts : rows.take (i2 + 1) = rows.take i2 ++ [rows[i2]] := List.take_succ_eq_append_getElem hl2
        have hflat2 : rows.flatten = (rows.take i2).flatten ++ (rows[i2] ++ (rows.drop (i2 + 1)).flatten) := by
          have : rows = rows.take i2 ++ rows[i2] :: rows.drop (i2 + 1) := by rw [← List.drop_eq_getElem_cons hl2, List.take_append_drop]
          rw [show rows.flatten = (rows.take i2 ++ rows[i2] :: rows.drop (i2 + 1)).flatten by rw [← this], List.flatten_append, List.flatten_cons]
        have hrowin := hin _ (List.getElem_mem hl2)
        have hnext : ∀ (j : Nat) (hj : j < rows.length), i2 + 1 ≤ j → ghd rows[i2] < ghd rows[j] := fun j hj hij => List.pairwise_iff_getElem.1 hheads i2 j hl2 hj (by omega)
        generalize hrl2 : rows[i2] = l at *
        have hl0 : 0 < l.length := List.length_pos_iff.2 hne
        have hxl := o3.len
        have hxc := o3.closed
        obtain ⟨u1, u2⟩ := o3.at hl0
        have u1' : ∀ kk rd, nstep (.idx 1) [x, .int kk 0] rd = some (.val (.vp (cI l) 0)) := u1
        have hg0 : l[0] = ghd l := by cases l with | nil => exact absurd rfl hne
                                                   | cons a l => rfl
        rw [hg0] at u2
        have hnl : ¬ ghd l ≤ last := by omega
        have hl0' : ¬ (l.length : Int) = 0 := by omega
        have hiw := wrap1 hl2 (by omega)
        simp [-List.getD_eq_getElem?_getD, -Int.ofNat_toNat, -getElem?_pos, er76_0, er76_1, er76_2, er76_3, er76_4, er76_5, er76_6, er76_7, er76_8, er76_9, er76_10, er76_11, er76_12, er76_13, er76_14, er76_15, er76_17, er76_18, er76_19, er76_20, er76_21, er76_22, er76_23, er76_24, er76_25, er76_26, er76_27, er76_28, er76_29, er76_30, er76_31, er76_32, er76_34, er76_36, hRlen, hl2', hl2, o1, o2, hxl, hne, hl0', u1', u2, hnl]
        generalize hPe : (rows.take i2).flatten = P at *
        have htot2 : P.length + (l.length + (rows.drop (i2 + 1)).flatten.length) = N := by rw [← htot, hflat2]; simp
        refine pc_loopI (fun m2 st => ∃ (k : Nat) (lf : Int) (c : List AV) (a16 p22 p23 : AV) (H : Heap), k + m2 = l.length ∧ PS H 2 0 1 N r cnt ∧ H[3]? = some (.cells 0 false c) ∧ SeenC N (P ++ l.take k) c ∧ lf = (N : Int) - (P ++ l.take k).length ∧
          st = ([.int .i64 N, v, .bool false, .bool true, .ptr 2 0 0, .int .i64 lf, .int .i64 i, a7, a8, a9, a10, R, .sl 3 0 0 N 1 N true, .int .i64 (ghd l), .int .i64 i2, .int .i64 k, a16, .bool false, .bool false, p19, .bool true, .bool false, p22, p23], H)) l.length
          ⟨0, lf, c, _, _, _, H, by simp, hpH, h3, by simpa using hseen, by simpa using hlf, rfl⟩ ?_
        clear h3 hseen hlf hpH
        rintro m2 st2 ⟨k, lf, c, a16, p22, p23, H, hk, hpH, h3, hseen, hlf, rfl⟩
        by_cases hkl : k < l.length
        · have hkl' : (k : Int) < l.length := by omega
          obtain ⟨w1, w2⟩ := o3.at hkl
          have hkw := wrap1 hkl (by omega)
          have hzm : l[k] ∈ l := List.getElem_mem hkl
          have hz := hrowin _ hzm
          have hlk : l.take (k + 1) = l.take k ++ [l[k]] := List.take_succ_eq_append_getElem hkl
          have hnotin : ¬ l[k] ∈ P ++ l.take k := by
            intro hm
            rw [hflat2, List.nodup_append] at hnd
            rcases List.mem_append.1 hm with hm | hm
            · exact hnd.2.2 _ hm _ (List.mem_append_left _ hzm) rfl
            · obtain ⟨j, hj, e⟩ := List.getElem_of_mem hm
              rw [List.getElem_take] at e
              have hj' : j < k := by simp at hj; omega
              have := List.pairwise_iff_getElem.1 hsrt j k (by omega) hkl hj'
              omega
          have hprev : 0 < k → l[k - 1]'(by omega) < l[k] := fun h => List.pairwise_iff_getElem.1 hsrt (k - 1) k (by omega) hkl (by omega)
          have hsame : sameP N r l[k] (ghd l) = true := by
            obtain ⟨a, h1, h2, h3'⟩ := (hmem _).1 hzm
            obtain ⟨b, h4, h5, h6⟩ := (hmem _).1 (ghd_mem hne)
            unfold sameP
            apply decide_eq_true
            refine ⟨⟨by omega, by omega⟩, ⟨by omega, by omega⟩, ?_⟩
            rw [h3', h6, show ((a : Int)).toNat = a by omega, show ((b : Int)).toNat = b by omega]
            omega
          obtain ⟨z, hzz⟩ : ∃ z : Nat, l[k] = (z : Int) := ⟨l[k].toNat, by omega⟩
          have hprev2 : ∀ hh : 0 < k, ∃ y : Int, (cI l)[k - 1]? = some (.int .i64 y) ∧ y < l[k] := fun hh => ⟨_, cI_get (by omega), hprev hh⟩
          rw [hzz] at hz hlk hnotin hsame w2 hprev2
          have hzN : z < N := by omega
          have hzN' : ¬ (N : Int) ≤ z := by omega
          have hzN2 : ¬ N ≤ z := by omega
          have hz0 : ¬ (z : Int) < 0 := by omega
          have hzN3 : (z : Int) < N := by omega
          have hsz := hseen.2 z hzN
          rw [decide_eq_false hnotin] at hsz
          have hcl2 := hseen.1
          have s1 := setAt_one (c := c) (o := z) (.bool true) (by omega)
          have hsa := seen_add hseen hzN
          have hz1 : z + 1 ≤ c.length := by omega
          have hz1' : z + 1 ≤ N := by omega
          have hlfw : IntKind.i64.wrap (lf - 1) = lf - 1 := by
            have : (P ++ l.take k).length ≤ N := by simp; omega
            exact wrap_in (by omega) (by omega)
          have fin : ∀ H4 : Heap, PS H4 2 0 1 N r cnt → (∀ j, j ≠ 0 → H4[j]? = H[j]?) → H4.length = H.length → ∀ a16 p22 p23 : AV, nextC (fun m2 st => ∃ (k : Nat) (lf : Int) (c : List AV) (a16 p22 p23 : AV) (H : Heap), k + m2 = l.length ∧ PS H 2 0 1 N r cnt ∧ H[3]? = some (.cells 0 false c) ∧ SeenC N (P ++ l.take k) c ∧ lf = (N : Int) - (P ++ l.take k).length ∧
              st = ([.int .i64 N, v, .bool false, .bool true, .ptr 2 0 0, .int .i64 lf, .int .i64 i, a7, a8, a9, a10, R, .sl 3 0 0 N 1 N true, .int .i64 (ghd l), .int .i64 i2, .int .i64 k, a16, .bool false, .bool false, p19, .bool true, .bool false, p22, p23], H)) () m2
              ([.int .i64 N, v, .bool false, .bool true, .ptr 2 0 0, .int .i64 (lf - 1), .int .i64 i, a7, a8, a9, a10, R, .sl 3 0 0 N 1 N true, .int .i64 (ghd l), .int .i64 i2, .int .i64 ((k : Int) + 1), a16, .bool false, .bool false, p19, .bool true, .bool false, p22, p23], H4.set 3 (.cells 0 false (c.set z (.bool true)))) := by
            intro H4 hp4 hk4 hl4 a16 p22 p23
            have h34 : H4[3]? = some (.cells 0 false c) := (hk4 3 (by omega)).trans h3
            refine next_mk (m2 - 1) (by omega) ⟨k + 1, lf - 1, _, a16, p22, p23, _, by omega, hp4.keep fun j hj => List.getElem?_set_ne (by omega), List.getElem?_set_self (lt_of_get h34), by rw [hlk, ← List.append_assoc]; exact hsa, by rw [hlk, ← List.append_assoc, List.length_append, hlf]; simp; omega, rfl⟩
          by_cases hk0 : 0 < k
          · obtain ⟨y, hy1, hy2⟩ := hprev2 hk0
            have hk0' : (0 : Int) < k := by omega
            have hkm : IntKind.i64.wrap ((k : Int) - 1) = ((k - 1 : Nat) : Int) := by rw [wrap_in (by omega) (by omega)]; omega
            obtain ⟨v1, _⟩ := o3.at (show k - 1 < l.length by omega)
            have hyz : ¬ (z : Int) ≤ y := by omega
            simp [-List.getD_eq_getElem?_getD, -Int.ofNat_toNat, -getElem?_pos, er76_0, er76_1, er76_2, er76_3, er76_4, er76_5, er76_6, er76_7, er76_8, er76_9, er76_10, er76_11, er76_12, er76_13, er76_14, er76_15, er76_17, er76_18, er76_19, er76_20, er76_21, er76_22, er76_23, er76_24, er76_25, er76_26, er76_27, er76_28, er76_29, er76_30, er76_31, er76_32, er76_34, er76_36, o1, o2, hxl, hkl', hkl, w1, w2, hz0, hzN', hzN2, h3, hsz, hzN3, hzN, hk0', hk0, hkm, v1, hy1, hyz]
            refine w_Same4 g.same g.is g.top hpH (z : Int) (ghd l) _ fun H4 hp4 k4 l4 => ?_
            simp only [hid_k]
            rw [hsame]
            have h34 : H4[3]? = some (.cells 0 false c) := (k4 3 (by omega)).trans h3
            simp [-List.getD_eq_getElem?_getD, -Int.ofNat_toNat, -getElem?_pos, er76_0, er76_1, er76_2, er76_3, er76_4, er76_5, er76_6, er76_7, er76_8, er76_9, er76_10, er76_11, er76_12, er76_13, er76_14, er76_15, er76_17, er76_18, er76_19, er76_20, er76_21, er76_22, er76_23, er76_24, er76_25, er76_26, er76_27, er76_28, er76_29, er76_30, er76_31, er76_32, er76_34, er76_36, hzN3, hzN, h34, s1, hz1, hz1', hlfw, hkw]
            exact fin H4 hp4 k4 l4 _ _ _
          · have hk0e : k = 0 := by omega
            have hk0' : ¬ (0 : Int) < k := by omega
            simp [-List.getD_eq_getElem?_getD, -Int.ofNat_toNat, -getElem?_pos, er76_0, er76_1, er76_2, er76_3, er76_4, er76_5, er76_6, er76_7, er76_8, er76_9, er76_10, er76_11, er76_12, er76_13, er76_14, er76_15, er76_17, er76_18, er76_19, er76_20, er76_21, er76_22, er76_23, er76_24, er76_25, er76_26, er76_27, er76_28, er76_29, er76_30, er76_31, er76_32, er76_34, er76_36, o1, o2, hxl, hkl', hkl, w1, w2, hz0, hzN', hzN2, h3, hsz, hzN3, hzN, hk0', hk0]
            refine w_Same4 g.same g.is g.top hpH (z : Int) (ghd l) _ fun H4 hp4 k4 l4 => ?_
            simp only [hid_k]
            rw [hsame]
            have h34 : H4[3]? = some (.cells 0 false c) := (k4 3 (by omega)).trans h3
            simp [-List.getD_eq_getElem?_getD, -Int.ofNat_toNat, -getElem?_pos, er76_0, er76_1, er76_2, er76_3, er76_4, er76_5, er76_6, er76_7, er76_8, er76_9, er76_10, er76_11, er76_12, er76_13, er76_14, er76_15, er76_17, er76_18, er76_19, er76_20, er76_21, er76_22, er76_23, er76_24, er76_25, er76_26, er76_27, er76_28, er76_29, er76_30, er76_31, er76_32, er76_34, er76_36, hzN3, hzN, h34, s1, hz1, hz1', hlfw, hkw]
            exact fin H4 hp4 k4 l4 _ _ _
        · have hkl' : ¬ (k : Int) < l.length := by omega
          have htk : l.take k = l := List.take_of_length_le (by omega)
          rw [htk] at hseen hlf
          have hP2 : (rows.take (i2 + 1)).flatten = P ++ l := by rw [hts, List.flatten_append, hPe]; simp
          simp [-List.getD_eq_getElem?_getD, -Int.ofNat_toNat, -getElem?_pos, er76_0, er76_1, er76_2, er76_3, er76_4, er76_5, er76_6, er76_7, er76_8, er76_9, er76_10, er76_11, er76_12, er76_13, er76_14, er76_15, er76_17, er76_18, er76_19, er76_20, er76_21, er76_22, er76_23, er76_24, er76_25, er76_26, er76_27, er76_28, er76_29, er76_30, er76_31, er76_32, er76_34, er76_36, o1, o2, hxl, hkl', hkl, hiw]
          exact next_mk (m - 1) (by omega) ⟨i2 + 1, ghd l, lf, c, _, _, _, _, _, _, H, by omega, hpH, h3, by rw [hP2]; exact hseen, hnext, by rw [hP2]; exact hlf, rfl⟩
      · have hl2' : ¬ (i2 : Int) < rows.length := by omega
        have htk : rows.take i2 = rows := List.take_of_length_le (by omega)
        rw [htk, htot] at hlf
        have hlf0 : lf = 0 := by omega
        subst hlf0
        simp [-List.getD_eq_getElem?_getD, -Int.ofNat_toNat, -getElem?_pos, er76_0, er76_1, er76_2, er76_3, er76_4, er76_5, er76_6, er76_7, er76_8, er76_9, er76_10, er76_11, er76_12, er76_13, er76_14, er76_15, er76_17, er76_18, er76_19, er76_20, er76_21, er76_22, er76_23, er76_24, er76_25, er76_26, er76_27, er76_28, er76_29, er76_30, er76_31, er76_32, er76_34, er76_36, hRlen, hl2', hl2]
        refine w_Count g.count hpH _ ?_
        simp only [hid_k]
        simp [-List.getD_eq_getElem?_getD, -Int.ofNat_toNat, -getElem?_pos, er76_0, er76_1, er76_2, er76_3, er76_4, er76_5, er76_6, er76_7, er76_8, er76_9, er76_10, er76_11, er76_12, er76_13, er76_14, er76_15, er76_17, er76_18, er76_19, er76_20, er76_21, er76_22, er76_23, er76_24, er76_25, er76_26, er76_27, er76_28, er76_29, er76_30, er76_31, er76_32, er76_34, er76_36, hcc, resK, resVs, resV, pack]
end Go.Ai.G
