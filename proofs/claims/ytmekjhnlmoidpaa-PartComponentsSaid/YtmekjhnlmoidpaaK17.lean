/- A part of what the law leans on: the abstract machine, the contracts, the rows. -/
import Derived.Test.YtmekjhnlmoidpaaK10
import Derived.Test.YtmekjhnlmoidpaaK15
import Derived.Test.YtmekjhnlmoidpaaK5
import Derived.Test.YtmekjhnlmoidpaaK7
/- part: New, Classes; rows of rows told apart. -/
namespace Go.Ai.G
open Go.Ai
set_option maxRecDepth 100000
set_option linter.unusedSimpArgs false
set_option linter.unusedVariables false
variable {A : AProg} {φ : Nat → Nat}
attribute [local simp ↓] getD_z getD_s hid_k hid_o hid_q hid_v PO_nil PO_none PO_grd PD_nil PD_none PD_grd PDO_N PDO_X PDO_call PDO_calli PDO_callv PStep_N PStep_X PStep_call PStep_calli PC_skip PC_lab
  PC_ret PC_exit PC_reg PC_draw PC_seq PC_block PC_loop PC_scope PC_cond thenC_norm thenC_ret thenC_exit blockC_norm blockC_ret blockC_exit loopC_norm loopC_ret loopC_exit endR_ret
  endR_norm
attribute [local simp] gz PDX_free PDX_eq PStep_callv resK_none resK_t resK_tt KNO_val KNO_new KNO_ite KNO_map KXO_some KXO_ite KVA_t KVA_f KG_skip KG_tt KG_ff KG_tf KG_ft KB_true KB_false KNOD_val
  KNOD_new KNOD_ite n_mv n_pick n_bin n_eqB n_eqN n_eqS n_un n_conv n_fadd n_faddV n_fld1 n_fldN n_idx n_idxA n_idxV n_idxAV n_ext n_lenS n_lenS0 n_lenV n_lenT n_lenA n_min n_max
  n_build n_mkfn n_slc n_slc0 n_slcV n_slcA n_load1 n_loadN n_load1V n_loadNV n_alloc n_box n_bsl n_mksl n_nilcP n_nilcV n_nilcI n_nilcF x_store x_clear0 x_clear b_add b_sub b_mul
  b_eql b_neq b_lss b_leq b_gtr b_geq b_and16 unV ntouch gather hide unhide evalOpd applyOuts int_bne int_beq ite_bool ite_int one_bool cells_bool one_int cells_int one_str cells_str
  one_nilp cells_nilp one_ptr cells_ptr one_nils cells_nils one_sl cells_sl one_nilf cells_nilf one_fn cells_fn one_nili cells_nili one_mp cells_mp one_nilm cells_nilm one_iface
  cells_iface one_vs cells_vs one_vp cells_vp cells_agg Nat.testBit setAt_1 setAt_2 closeds_nil closeds_cons closed_bool closed_int closed_str closed_nilp closed_nils closed_nilm
  closed_nilf closed_nili closed_agg closed_tup closed_vs closed_vp closed_iface closed_fn closeds_cI closeds_cE viewA_closed viewR_closed AV.scal AV.scal0 fillA repA part_bool
  part_int part_str part_nilp part_ptr part_nils part_sl part_nilm part_mp part_nilf part_fn part_nili part_iface part_agg part_vs part_vp viewA_sl1 vaSl_cells wrap_0 wrap_1 wrap_2
  wrap_m1 set_last get_last
theorem er70_0 (φ : Nat → Nat) : r70_0 φ = [
  ⟨0, .N .mv, [.c (.bool false)], none, 0⟩] := Eq.trans rfl rfl
theorem er70_1 (φ : Nat → Nat) : r70_1 φ = [
  ⟨0, .N .mv, [.n 0], none, 0⟩,
  ⟨1, .N .lenS, [.l 0], none, 0⟩,
  ⟨2, .N .mv, [.n 1], none, 0⟩,
  ⟨3, .N .lenS, [.l 0], none, 0⟩,
  ⟨4, .N (.bin .neq), [.l 2, .l 0], none, 0⟩] := Eq.trans rfl rfl
theorem er70_2 (φ : Nat → Nat) : r70_2 φ = [
  ⟨0, .N .mv, [.c (.bool false)], none, 0⟩] := Eq.trans rfl rfl
theorem er70_3 (φ : Nat → Nat) : r70_3 φ = [
  ⟨0, .N .mv, [.c (.int .i64 0)], none, 0⟩] := Eq.trans rfl rfl
theorem er70_4 (φ : Nat → Nat) : r70_4 φ = [
  ⟨0, .N .mv, [.n 3], none, 0⟩,
  ⟨1, .N .mv, [.n 0], none, 0⟩,
  ⟨2, .N .lenS, [.l 0], none, 0⟩,
  ⟨3, .N (.bin .lss), [.l 2, .l 0], none, 0⟩] := Eq.trans rfl rfl
theorem er70_5 (φ : Nat → Nat) : r70_5 φ = [
  ⟨0, .N .mv, [.n 0], none, 0⟩,
  ⟨1, .N .mv, [.n 3], none, 0⟩,
  ⟨2, .N (.idx 1), [.l 1, .l 0], none, 3⟩,
  ⟨3, .N .load1, [.l 0], none, 7⟩,
  ⟨4, .N .mv, [.n 1], none, 0⟩,
  ⟨5, .N .mv, [.n 3], none, 0⟩,
  ⟨6, .N (.idx 1), [.l 1, .l 0], none, 48⟩,
  ⟨7, .N .load1, [.l 0], none, 112⟩,
  ⟨8, .calli true (φ 11), [.l 4, .l 0], none, 255⟩,
  ⟨9, .N (.un .not), [.l 0], none, 511⟩] := Eq.trans rfl rfl
theorem er70_6 (φ : Nat → Nat) : r70_6 φ = [
  ⟨0, .N .mv, [.c (.bool false)], none, 0⟩] := Eq.trans rfl rfl
theorem er70_7 (φ : Nat → Nat) : r70_7 φ = [
  ⟨0, .N .mv, [.n 3], none, 0⟩,
  ⟨1, .N (.bin .add), [.l 0, .c (.int .i64 1)], none, 0⟩,
  ⟨2, .N .mv, [.l 0], none, 0⟩] := Eq.trans rfl rfl
theorem er70_9 (φ : Nat → Nat) : r70_9 φ = [
  ⟨0, .N .mv, [.c (.bool true)], none, 0⟩] := Eq.trans rfl rfl
theorem w_Classes (hx : A.ext (φ 68) = some clsExt) {H : Heap} {b bu bs N : Nat} {r : Nat → Nat} {cnt : Int} (p : PS H b bu bs N r cnt) (hN : N ≤ 1000) (K : AV → Heap → Prop)
    (hK : ∀ H', PS H' b bu bs N r cnt → (∀ k, k ≠ bu → H'[k]? = H[k]?) → H'.length = H.length → K (rowsV (cls r N)) H') : PCall A (φ 68) [.ptr b 0 0] H K := by
  obtain ⟨up, sz, pa, d, D, hd⟩ := p
  have hda : ∀ i, i < N → d i ≤ N := fun i hi => by have := hd i hi; have := csz_le N r (r i); omega
  have e1 := dec_okUp D hda
  have e2 : cls (iterU up N) N = cls r N := cls_congr fun i hi => iterU_dec D N i hi (hda i hi)
  have D2 := allTop_dec D hda (2 * N) (Nat.le_refl _)
  have h1 : clsExt [.ptr b 0 0] H = some (.ok (rowsV (cls r N)) (H.set bu (.cells 0 false (cI (allTop N up (2 * N)))))) := by
    unfold clsExt
    simp only [pa.hb, pa.hu]
    rw [if_pos ⟨trivial, trivial, hN, pa.ne.1⟩]
    simp only [decI_cI, e1, if_true, e2]
  refine ⟨1, _, _, ?_, hK _ ⟨_, sz, ⟨?_, List.getElem?_set_self (lt_of_get pa.hu), ?_, D2.len, pa.ls, pa.ne⟩, d, D2, hd⟩ (fun k hk => List.getElem?_set_ne (fun e => hk e.symm)) (by simp)⟩
  · show (match A.ext (φ 68) with | some x => x [.ptr b 0 0] H | none => _) = _
    rw [hx]; exact h1
  · rw [List.getElem?_set_ne (fun e => pa.ne.1 e.symm)]; exact pa.hb
  · rw [List.getElem?_set_ne pa.ne.2.2]; exact pa.hs
/-- The numbers of a new Part, behind k rounds. -/
def upK (k N : Nat) : List Int := (List.range N).map fun (i : Nat) => if i < k then (i : Int) else 0
def szK (k N : Nat) : List Int := (List.range N).map fun (i : Nat) => if i < k then 1 else 0
theorem mapR_set (f g : Nat → Int) (N k : Nat) (h : ∀ i, i < N → g i = if i = k then g k else f i) : ((List.range N).map f).set k (g k) = (List.range N).map g := by
  apply List.ext_getElem?
  intro i
  rw [List.getElem?_set]
  by_cases hi : i < N
  · have e := h i hi
    simp only [List.getElem?_map, List.getElem?_range hi, Option.map_some, List.length_map, List.length_range]
    by_cases hk : k = i
    · subst hk; simp [hi]
    · rw [if_neg hk, e, if_neg (fun x => hk x.symm)]
  · simp only [List.length_map, List.length_range]
    have e2 : (List.range N)[i]? = none := List.getElem?_eq_none (by simp; omega)
    by_cases hk : k = i
    · subst hk; simp [hi]
    · rw [if_neg hk]; simp [e2]
theorem upK_step {k N : Nat} (h : k < N) : (upK k N).set k (k : Int) = upK (k + 1) N := by
  have := mapR_set (fun i => if i < k then (i : Int) else 0) (fun i => if i < k + 1 then (i : Int) else 0) N k (fun i _ => by
    by_cases e : i = k
    · subst e; rw [if_pos rfl]
    · rw [if_neg e]; split <;> split <;> first | rfl | omega)
  simp only [if_pos (Nat.lt_succ_self k)] at this
  exact this
theorem szK_step {k N : Nat} (h : k < N) : (szK k N).set k 1 = szK (k + 1) N := by
  have := mapR_set (fun i => if i < k then 1 else 0) (fun i => if i < k + 1 then 1 else 0) N k (fun i _ => by
    by_cases e : i = k
    · subst e; rw [if_pos rfl]
    · rw [if_neg e]; split <;> split <;> first | rfl | omega)
  simp only [if_pos (Nat.lt_succ_self k)] at this
  exact this
theorem rep_new (N : Nat) : Rep N id (upK N N) := by
  have hu : ∀ i, i < N → upn (upK N N) i = i := fun i hi => by
    unfold upn upK
    rw [List.getD_eq_getElem?_getD]; simp [hi]
  refine ⟨fun _ => 0, ⟨by simp [upK], fun i hi => ?_, fun i hi => by rw [hu i hi]; exact hi, fun i hi => by rw [hu i hi], fun i hi => by rw [hu i hi]; simp, fun i hi => hi, fun i hi => rfl, fun i hi hn => absurd (hu i hi) hn⟩, fun i hi => csz_pos (r := id) hi⟩
  rw [hu i hi]
  unfold upK
  simp [hi]
def clampN (n : Int) : Nat := (min (max n 0) 1000).toNat
theorem w_PNew (h : Has A (φ 60) (f60 φ)) (n : Int) (H : Heap) (K : AV → Heap → Prop)
    (hK : ∀ H', PS H' (H.length + 2) H.length (H.length + 1) (clampN n) id (clampN n) → (∀ k, k < H.length → H'[k]? = H[k]?) → H'.length = H.length + 3 → K (.ptr (H.length + 2) 0 0) H') : PCall A (φ 60) [.int .i64 n] H K := by
  obtain ⟨N, hN⟩ : ∃ N : Nat, clampN n = N := ⟨_, rfl⟩
  have hN1 : N ≤ 1000 := by unfold clampN at hN; omega
  have hmm : min (max n 0) 1000 = (N : Int) := by unfold clampN at hN; omega
  rw [hN] at hK
  have m1 := maxV_i n 0
  have m2 := minV_i (max n 0) 1000
  rw [hmm] at m2
  refine pcall_has h rfl ?_
  simp only [l60_8, b60, f60]
  have hr0 : repA [.int .i64 0] N = cI (upK 0 N) := by
    rw [repA_repl]; unfold upK cI
    rw [List.map_map]
    apply List.ext_getElem?
    intro i
    rw [List.getElem?_replicate]
    by_cases hi : i < N
    · rw [if_pos hi]; simp [hi]
    · rw [if_neg hi, List.getElem?_eq_none (by simp; omega)]
  have hr1 : repA [.int .i64 0] N = cI (szK 0 N) := by rw [hr0]; rfl
  simp [-List.getD_eq_getElem?_getD, -Int.ofNat_toNat, -getElem?_pos, er60_0, er60_1, er60_2, er60_3, er60_4, er60_5, er60_6, er60_7, er60_9, m1, m2, foldV]
  refine ⟨by omega, ?_⟩
  have hst : ∀ S : Ob, (H ++ [Ob.cells 0 false (repA [.int .i64 0] N), Ob.cells 0 false (repA [.int .i64 0] N), S] : Heap) = H ++ [Ob.cells 0 false (cI (upK 0 N)), Ob.cells 0 false (cI (szK 0 N)), S] := fun S => by rw [← hr0, ← hr1]
  rw [hst]
  refine pc_loopI (fun m st => ∃ (k : Nat) (p3 p6 : AV), k + m = N ∧ st = ([.int .i64 N, .nilp, .ptr (H.length + 2) 0 0, p3, .int .i64 N, .int .i64 k, p6],
    H ++ [Ob.cells 0 false (cI (upK k N)), Ob.cells 0 false (cI (szK k N)), Ob.cells 0 false [.sl H.length 0 0 N 1 N true, .sl (H.length + 1) 0 0 N 1 N true, .int .i64 N]])) N ⟨0, _, _, by simp, rfl⟩ ?_
  rintro m st ⟨k, p3, p6, hk, rfl⟩
  by_cases hlt : k < N
  · have hlt' : (k : Int) < N := by omega
    have hkw := wrap1 hlt (by omega)
    have l1 : (cI (upK k N)).length = N := by simp [cI, upK]
    have l2 : (cI (szK k N)).length = N := by simp [cI, szK]
    have s1 : setAt (cI (upK k N)) k [.int .i64 (k : Int)] = cI (upK (k + 1) N) := by rw [setAt_one _ (by omega), ← cI_set, upK_step hlt]
    have s2 : setAt (cI (szK k N)) k [.int .i64 1] = cI (szK (k + 1) N) := by rw [setAt_one _ (by omega), ← cI_set, szK_step hlt]
    have hk1 : k + 1 ≤ N := by omega
    simp [-List.getD_eq_getElem?_getD, -Int.ofNat_toNat, -getElem?_pos, er60_0, er60_1, er60_2, er60_3, er60_4, er60_5, er60_6, er60_7, er60_9, hlt', hlt, hkw, get_at, get_at0, set_at, set_at0, l1, l2, s1, s2, hk1]
    exact next_mk (m - 1) (by omega) ⟨k + 1, _, _, by omega, rfl⟩
  · have hke : k = N := by omega
    subst hke
    have hK' := hK (H ++ [Ob.cells 0 false (cI (upK k k)), Ob.cells 0 false (cI (szK k k)), Ob.cells 0 false [.sl H.length 0 0 k 1 k true, .sl (H.length + 1) 0 0 k 1 k true, .int .i64 k]])
      ⟨upK k k, szK k k, ⟨by rw [get_at]; rfl, by rw [get_at0]; rfl, by rw [get_at]; rfl, by simp [upK], by simp [szK], by omega⟩, rep_new k⟩ (fun i hi => List.getElem?_append_left hi) (by simp)
    simp [-List.getD_eq_getElem?_getD, -Int.ofNat_toNat, -getElem?_pos, er60_0, er60_1, er60_2, er60_3, er60_4, er60_5, er60_6, er60_7, er60_9, resK, resVs, resV, pack]
    exact hK'
/-- Rows of rows, as a value. -/
def IsRows (v : AV) (rows : List (List Int)) : Prop := (v = .nils ∧ rows = []) ∨ ∃ l : List AV, v = .vs rows.length 1 l ∧ l.length = rows.length ∧ AV.closeds l = true ∧ ∀ (j : Nat) x zs, l[j]? = some x → rows[j]? = some zs → IsI x zs
theorem isRows_v (rows : List (List Int)) : IsRows (rowsV rows) rows := by
  unfold rowsV
  by_cases h : rows = []
  · rw [if_pos h]; exact .inl ⟨rfl, h⟩
  · rw [if_neg h]
    refine .inr ⟨_, rfl, by simp, ?_, fun j x zs hx hz => ?_⟩
    · rw [closeds_iff]
      intro i x hx
      rw [List.getElem?_map, Option.map_eq_some_iff] at hx
      obtain ⟨zs, _, rfl⟩ := hx
      exact closeds_cI zs
    · rw [List.getElem?_map, hz] at hx
      cases hx
      exact isI_v zs
theorem IsRows.closed {v : AV} {rows : List (List Int)} (h : IsRows v rows) : v.closed = true := by
  rcases h with ⟨rfl, _⟩ | ⟨l, rfl, _, hc, _⟩
  · rfl
  · exact hc
theorem IsRows.len {v : AV} {rows : List (List Int)} (h : IsRows v rows) (rd : Nat → Option Ob) : nstep .lenS [v] rd = some (.val (.int .i64 rows.length)) := by
  rcases h with ⟨rfl, rfl⟩ | ⟨l, rfl, _⟩ <;> rfl
theorem IsRows.one {v : AV} {rows : List (List Int)} (h : IsRows v rows) : v.one = true := by
  rcases h with ⟨rfl, rfl⟩ | ⟨l, rfl, _⟩ <;> rfl
theorem IsRows.at {v : AV} {rows : List (List Int)} (h : IsRows v rows) {i : Nat} (hi : i < rows.length) : ∃ l x, (∀ (k : IntKind) rd, nstep (.idx 1) [v, .int k (i : Int)] rd = some (.val (.vp l i))) ∧ l[i]? = some x ∧ IsI x rows[i] := by
  rcases h with ⟨rfl, rfl⟩ | ⟨l, rfl, hl, _, hx⟩
  · simp at hi
  · have hil : i < l.length := by omega
    refine ⟨l, l[i], fun k rd => ?_, List.getElem?_eq_getElem hil, hx i _ _ (List.getElem?_eq_getElem hil) (List.getElem?_eq_getElem hi)⟩
    rw [n_idxV, if_pos ⟨rfl, by omega, by omega, by omega⟩]; simp
theorem w_SameRows (h : Has A (φ 70) (f70 φ)) (hS : ∀ v u xs ys, IsI v xs → IsI u ys → xs.length < 1000000000000 → PVal A (φ 11) [v, u] (.bool (decide (xs = ys)))) (v u : AV) (xs ys : List (List Int)) (hv : IsRows v xs) (hu : IsRows u ys)
    (hn : xs.length < 1000000) (hr : ∀ l ∈ xs, l.length < 1000000) : PVal A (φ 70) [v, u] (.bool (decide (xs = ys))) := by
  have l1 := hv.len
  have l2 := hu.len
  refine pval_has h rfl ?_
  simp only [l70_8, b70, f70]
  by_cases hl : xs.length = ys.length
  · have hl' : (xs.length : Int) = ys.length := by omega
    simp [-List.getD_eq_getElem?_getD, -Int.ofNat_toNat, -getElem?_pos, er70_0, er70_1, er70_2, er70_3, er70_4, er70_5, er70_6, er70_7, er70_9, l1, l2, hl]
    refine pc_loopI (fun m st => ∃ (i : Nat) (p5 p6 : AV), i + m = xs.length ∧ xs.take i = ys.take i ∧ st = ([v, u, .bool false, .int .i64 i, .bool false, p5, p6], [])) xs.length ⟨0, _, _, by simp, by simp, rfl⟩ ?_
    rintro m st ⟨i, p5, p6, hi, he, rfl⟩
    by_cases hlt : i < xs.length
    · have hlt2 : i < ys.length := by omega
      have hlt' : (i : Int) < ys.length := by omega
      obtain ⟨c1, x1, a1, b1, d1⟩ := hv.at hlt
      obtain ⟨c2, x2, a2, b2, d2⟩ := hu.at hlt2
      have hw1 := wrap1 hlt (by omega)
      have hlen := hr _ (List.getElem_mem hlt)
      have cS := (hS x1 x2 _ _ d1 d2 (by omega)).eq
      have t1 : xs.take (i + 1) = xs.take i ++ [xs[i]] := List.take_succ_eq_append_getElem hlt
      have t2 : ys.take (i + 1) = ys.take i ++ [ys[i]] := List.take_succ_eq_append_getElem hlt2
      by_cases q : xs[i] = ys[i]
      · rw [decide_eq_true q] at cS
        simp [-List.getD_eq_getElem?_getD, -Int.ofNat_toNat, -getElem?_pos, er70_0, er70_1, er70_2, er70_3, er70_4, er70_5, er70_6, er70_7, er70_9, l1, l2, hl, hlt', hlt2, a1, a2, b1, b2, d1.closed, d2.closed, d1.one, d2.one, cS, hw1, PDX_eq]
        exact next_mk (m - 1) (by omega) ⟨i + 1, _, _, by omega, by rw [t1, t2, he, q], rfl⟩
      · have hne : ¬ xs = ys := fun e => q (by subst e; rfl)
        rw [decide_eq_false q] at cS
        simp [-List.getD_eq_getElem?_getD, -Int.ofNat_toNat, -getElem?_pos, er70_0, er70_1, er70_2, er70_3, er70_4, er70_5, er70_6, er70_7, er70_9, l1, l2, hl, hlt', hlt2, a1, a2, b1, b2, d1.closed, d2.closed, d1.one, d2.one, cS, hne, PDX_eq, resK, resVs, resV, pack]
    · have hlt' : ¬ (i : Int) < ys.length := by omega
      have e : xs = ys := by rw [List.take_of_length_le (by omega), List.take_of_length_le (by omega)] at he; exact he
      simp [-List.getD_eq_getElem?_getD, -Int.ofNat_toNat, -getElem?_pos, er70_0, er70_1, er70_2, er70_3, er70_4, er70_5, er70_6, er70_7, er70_9, l1, l2, hl, hlt', e, resK, resVs, resV, pack]
      try omega
  · have hne : ¬ xs = ys := fun e => hl (by rw [e])
    have hl' : ¬ (xs.length : Int) = ys.length := by omega
    simp [-List.getD_eq_getElem?_getD, -Int.ofNat_toNat, -getElem?_pos, er70_0, er70_1, er70_2, er70_3, er70_4, er70_5, er70_6, er70_7, er70_9, l1, l2, hl, hl', hne, resK, resVs, resV, pack]
end Go.Ai.G
/- Joins, as an equivalence; how many classes there are. -/
namespace Go.Ai.G
open Go.Ai
set_option maxRecDepth 100000
set_option linter.unusedSimpArgs false
set_option linter.unusedVariables false
variable {A : AProg} {φ : Nat → Nat}
/-- What joins make one. -/
inductive Cn (ps : List (Nat × Nat)) : Nat → Nat → Prop where
  | of {a b : Nat} (h : (a, b) ∈ ps) : Cn ps a b
  | refl (a : Nat) : Cn ps a a
  | symm {a b : Nat} (h : Cn ps a b) : Cn ps b a
  | trans {a b c : Nat} (h : Cn ps a b) (k : Cn ps b c) : Cn ps a c
theorem Cn.mono {ps qs : List (Nat × Nat)} (h : ∀ a b, (a, b) ∈ ps → Cn qs a b) : ∀ {a b : Nat}, Cn ps a b → Cn qs a b := by
  intro a b hc
  induction hc with
  | of hm => exact h _ _ hm
  | refl a => exact .refl a
  | symm _ ih => exact .symm ih
  | trans _ _ ih1 ih2 => exact .trans ih1 ih2
theorem Cn.fn {α : Type} {ps : List (Nat × Nat)} (f : Nat → α) (h : ∀ a b, (a, b) ∈ ps → f a = f b) : ∀ {a b : Nat}, Cn ps a b → f a = f b := by
  intro a b hc
  induction hc with
  | of hm => exact h _ _ hm
  | refl a => rfl
  | symm _ ih => exact ih.symm
  | trans _ _ ih1 ih2 => exact ih1.trans ih2
def Joined (N : Nat) (ps : List (Nat × Nat)) (r : Nat → Nat) : Prop := (∀ i j, Cn ps i j → r i = r j) ∧ ∀ i j, i < N → j < N → r i = r j → Cn ps i j
theorem joined_nil (N : Nat) : Joined N [] id := ⟨fun i j h => h.fn id (by simp), fun i j _ _ h => by have : i = j := h; subst this; exact .refl i⟩
theorem joined_step {N : Nat} {ps : List (Nat × Nat)} {r r' : Nat → Nat} (h : Joined N ps r) {a c : Nat} (ha : a < N) (hc : c < N) {ok : Bool} {cnt cnt' : Int} (hj : JoinR N r r' (a : Int) (c : Int) ok cnt cnt') : Joined N ((a, c) :: ps) r' := by
  have hmono : ∀ {i j}, Cn ps i j → Cn ((a, c) :: ps) i j := fun hc => hc.mono fun a b hm => .of (List.mem_cons_of_mem _ hm)
  have hac : Cn ((a, c) :: ps) a c := .of (List.mem_cons_self ..)
  have ta : ((a : Int)).toNat = a := by omega
  have tc : ((c : Int)).toNat = c := by omega
  cases ok with
  | false =>
    obtain ⟨rfl, _⟩ := hj.no rfl
    have hv := hj.val
    rw [ta, tc] at hv
    have hr : r' a = r' c := by
      have := of_decide_eq_false hv.symm
      refine Decidable.byContradiction fun hne => this ⟨⟨by omega, by omega⟩, ⟨by omega, by omega⟩, hne⟩
    refine ⟨fun i j hc => hc.fn r' fun x y hm => ?_, fun i j hi hj' he => hmono (h.2 i j hi hj' he)⟩
    rcases List.mem_cons.1 hm with e | hm
    · cases e; exact hr
    · exact h.1 x y (.of hm)
  | true =>
    obtain ⟨_, x, y, hxy, hor, rfl⟩ := hj.yes rfl
    rw [ta, tc] at hor
    constructor
    · intro i j hcn
      refine hcn.fn (fun i => if r i = y then x else r i) fun u v hm => ?_
      rcases List.mem_cons.1 hm with e | hm
      · cases e
        show (if r a = y then x else r a) = (if r c = y then x else r c)
        rcases hor with ⟨rfl, rfl⟩ | ⟨rfl, rfl⟩
        · rw [if_pos rfl, if_neg hxy]
        · rw [if_pos rfl, if_neg hxy]
      · have := h.1 u v (.of hm)
        simp only [this]
    · intro i j hi hj' he
      have toa : ∀ i, i < N → r i = r a → Cn ((a, c) :: ps) i a := fun i hi e => hmono (h.2 i a hi ha e)
      have toc : ∀ i, i < N → r i = r c → Cn ((a, c) :: ps) i a := fun i hi e => .trans (hmono (h.2 i c hi hc e)) (.symm hac)
      have both : ∀ i, i < N → (r i = x ∨ r i = y) → Cn ((a, c) :: ps) i a := fun i hi e => by
        rcases hor with ⟨rfl, rfl⟩ | ⟨rfl, rfl⟩
        · rcases e with e | e
          · exact toa i hi e
          · exact toc i hi e
        · rcases e with e | e
          · exact toc i hi e
          · exact toa i hi e
      have he : (if r i = y then x else r i) = (if r j = y then x else r j) := he
      by_cases e1 : r i = y
      · rw [if_pos e1] at he
        by_cases e2 : r j = y
        · exact hmono (h.2 i j hi hj' (e1.trans e2.symm))
        · rw [if_neg e2] at he
          exact .trans (both i hi (.inr e1)) (.symm (both j hj' (.inl he.symm)))
      · rw [if_neg e1] at he
        by_cases e2 : r j = y
        · rw [if_pos e2] at he
          exact .trans (both i hi (.inl he)) (.symm (both j hj' (.inr e2)))
        · rw [if_neg e2] at he
          exact hmono (h.2 i j hi hj' he)
theorem joined_rel {N : Nat} {ps qs : List (Nat × Nat)} {r r' : Nat → Nat} (h : Joined N ps r) (k : Joined N qs r') (h1 : ∀ a b, (a, b) ∈ ps → Cn qs a b) (h2 : ∀ a b, (a, b) ∈ qs → Cn ps a b) : ∀ i j, i < N → j < N → (r i = r j ↔ r' i = r' j) :=
  fun i j hi hj => ⟨fun e => k.1 i j ((h.2 i j hi hj e).mono h1), fun e => h.1 i j ((k.2 i j hi hj e).mono h2)⟩
theorem cls_rel {N : Nat} {r r' : Nat → Nat} (h : ∀ i j, i < N → j < N → (r i = r j ↔ r' i = r' j)) : cls r N = cls r' N := by
  have hg : ∀ i, i < N → gcl r N (r i) = gcl r' N (r' i) := fun i hi => by
    unfold gcl
    congr 1
    refine List.filter_congr fun j hj => ?_
    have := h j i (List.mem_range.1 hj) hi
    rw [decide_eq_decide]
    constructor
    · intro e; have := this.1 (by omega); omega
    · intro e; have := this.2 (by omega); omega
  unfold cls
  have e : (List.range N).filter (fun i => decide (ghd (gcl r N (r i)) = (i : Int))) = (List.range N).filter fun i => decide (ghd (gcl r' N (r' i)) = (i : Int)) :=
    List.filter_congr fun i hi => by rw [hg i (List.mem_range.1 hi)]
  rw [e]
  exact List.map_congr_left fun i hi => hg i (List.mem_range.1 (List.mem_filter.1 hi).1)
def rootsN (N : Nat) (r : Nat → Nat) : Nat := ((List.range N).filter fun i => decide (r i = i)).length
theorem rep_facts {N : Nat} {r : Nat → Nat} {up : List Int} (h : Rep N r up) : (∀ i, i < N → r i < N) ∧ ∀ i, i < N → r (r i) = r i := by
  obtain ⟨d, D, _⟩ := h
  exact ⟨D.rlt, D.rr⟩
theorem roots_cls {N : Nat} {r : Nat → Nat} (hlt : ∀ i, i < N → r i < N) (hrr : ∀ i, i < N → r (r i) = r i) : rootsN N r = (cls r N).length := by
  have hne : ∀ i, i < N → gcl r N (r i) ≠ [] := fun i hi h => by
    have : (i : Int) ∈ gcl r N (r i) := (gcl_mem _ _ _ _).2 ⟨i, hi, rfl, rfl⟩
    rw [h] at this; simp at this
  unfold rootsN cls
  rw [List.length_map]
  have e1 : (((List.range N).filter fun i => decide (r i = i)).map fun i => (ghd (gcl r N (r i))).toNat).length = ((List.range N).filter fun i => decide (r i = i)).length := List.length_map ..
  rw [← e1]
  refine len_of_mem _ _ ?_ ((List.nodup_range).filter _) fun x => ?_
  · rw [List.Nodup, List.pairwise_map]
    refine List.Pairwise.imp_of_mem ?_ ((List.nodup_range (n := N)).filter _)
    intro a b ha hb hab he
    simp only [List.mem_filter, List.mem_range, decide_eq_true_eq] at ha hb
    obtain ⟨i, h1, h2, h3⟩ := (gcl_mem _ _ _ _).1 (ghd_mem (hne a ha.1))
    obtain ⟨j, h4, h5, h6⟩ := (gcl_mem _ _ _ _).1 (ghd_mem (hne b hb.1))
    have : i = j := by omega
    subst this
    apply hab
    have : r a = r b := by omega
    rw [ha.2, hb.2] at this; exact this
  · simp only [List.mem_map, List.mem_filter, List.mem_range, decide_eq_true_eq]
    constructor
    · rintro ⟨i, ⟨h1, h2⟩, rfl⟩
      obtain ⟨j, h3, h4, h5⟩ := (gcl_mem _ _ _ _).1 (ghd_mem (hne i h1))
      have e : (ghd (gcl r N (r i))).toNat = j := by omega
      rw [e]
      refine ⟨h3, ?_⟩
      rw [h4, h5]
    · rintro ⟨h1, h2⟩
      refine ⟨r x, ⟨hlt x h1, hrr x h1⟩, ?_⟩
      rw [hrr x h1, h2]; omega
theorem roots_step {N : Nat} {r r' : Nat → Nat} (hlt : ∀ i, i < N → r i < N) (hrr : ∀ i, i < N → r (r i) = r i) {a c : Int} {cnt cnt' : Int} {ok : Bool} (hj : JoinR N r r' a c ok cnt cnt') (hc : cnt = rootsN N r) : cnt' = rootsN N r' := by
  cases ok with
  | false =>
    obtain ⟨rfl, rfl⟩ := hj.no rfl
    exact hc
  | true =>
    obtain ⟨rfl, x, y, hxy, hor, rfl⟩ := hj.yes rfl
    have hv := of_decide_eq_true hj.val.symm
    obtain ⟨⟨a1, a2⟩, ⟨c1, c2⟩, _⟩ := hv
    have hx : x < N ∧ r x = x := by
      rcases hor with ⟨rfl, rfl⟩ | ⟨rfl, rfl⟩ <;> exact ⟨hlt _ (by omega), hrr _ (by omega)⟩
    have hy : y < N ∧ r y = y := by
      rcases hor with ⟨rfl, rfl⟩ | ⟨rfl, rfl⟩ <;> exact ⟨hlt _ (by omega), hrr _ (by omega)⟩
    have hn : (y :: (List.range N).filter fun i => decide ((if r i = y then x else r i) = i)).length = ((List.range N).filter fun i => decide (r i = i)).length := by
      refine len_of_mem _ _ ?_ ((List.nodup_range).filter _) fun z => ?_
      · rw [List.nodup_cons]
        refine ⟨fun hm => ?_, (List.nodup_range).filter _⟩
        simp only [List.mem_filter, List.mem_range, decide_eq_true_eq] at hm
        rw [if_pos hy.2] at hm
        exact hxy hm.2
      · simp only [List.mem_cons, List.mem_filter, List.mem_range, decide_eq_true_eq]
        constructor
        · rintro (rfl | ⟨h1, h2⟩)
          · exact hy
          · refine ⟨h1, ?_⟩
            by_cases e : r z = y
            · rw [if_pos e] at h2
              subst h2
              exact hx.2
            · rw [if_neg e] at h2; exact h2
        · rintro ⟨h1, h2⟩
          by_cases e : z = y
          · exact .inl e
          · refine .inr ⟨h1, ?_⟩
            rw [if_neg (by rw [h2]; exact e)]; exact h2
    simp only [List.length_cons] at hn
    have hg : rootsN N (fun i => if r i = y then x else r i) = ((List.range N).filter fun i => decide ((if r i = y then x else r i) = i)).length := rfl
    rw [hg]
    unfold rootsN at hc
    omega
/-- A Part in the memory behind these joins. -/
def PSJ (H : Heap) (b bu bs N : Nat) (ps : List (Nat × Nat)) : Prop := ∃ r cnt, PS H b bu bs N r cnt ∧ Joined N ps r ∧ cnt = (rootsN N r : Nat)
theorem roots_le (N : Nat) (r : Nat → Nat) : rootsN N r ≤ N := by
  unfold rootsN
  exact Nat.le_trans (List.length_filter_le _ _) (by simp)
theorem roots_id (N : Nat) : rootsN N id = N := by
  unfold rootsN
  rw [List.filter_eq_self.2 (by simp)]; simp
theorem w_JoinJ (h : Has A (φ 64) (f64 φ)) (hi : Has A (φ 80) (f80 φ)) (ht : Has A (φ 81) (f81 φ)) {H : Heap} {b bu bs N : Nat} {ps : List (Nat × Nat)} (p : PSJ H b bu bs N ps) (hN : N ≤ 1000) {a c : Nat} (ha : a < N) (hc : c < N)
    (K : AV → Heap → Prop) (hK : ∀ H' ok, PSJ H' b bu bs N ((a, c) :: ps) → (∀ k, k ≠ b → k ≠ bu → k ≠ bs → H'[k]? = H[k]?) → H'.length = H.length → K (.bool ok) H') : PCall A (φ 64) [.ptr b 0 0, .int .i64 a, .int .i64 c] H K := by
  obtain ⟨r, cnt, p, hJ, hcn⟩ := p
  have hrl := roots_le N r
  refine w_Join h hi ht p (by omega) a c K fun H' r' cnt' ok p' k l j => ?_
  obtain ⟨up, sz, _, hr⟩ := p
  obtain ⟨f1, f2⟩ := rep_facts hr
  exact hK H' ok ⟨r', cnt', p', joined_step hJ ha hc j, roots_step f1 f2 j hcn⟩ k l
end Go.Ai.G
/- PartOrder. -/
namespace Go.Ai.G
open Go.Ai
set_option maxRecDepth 100000
set_option linter.unusedSimpArgs false
set_option linter.unusedVariables false
variable {A : AProg} {φ : Nat → Nat}
attribute [local simp ↓] getD_z getD_s hid_k hid_o hid_q hid_v PO_nil PO_none PO_grd PD_nil PD_none PD_grd PDO_N PDO_X PDO_call PDO_calli PDO_callv PStep_N PStep_X PStep_call PStep_calli PC_skip PC_lab
  PC_ret PC_exit PC_reg PC_draw PC_seq PC_block PC_loop PC_scope PC_cond thenC_norm thenC_ret thenC_exit blockC_norm blockC_ret blockC_exit loopC_norm loopC_ret loopC_exit endR_ret
  endR_norm
attribute [local simp] gz PDX_free PDX_eq PStep_callv resK_none resK_t resK_tt KNO_val KNO_new KNO_ite KNO_map KXO_some KXO_ite KVA_t KVA_f KG_skip KG_tt KG_ff KG_tf KG_ft KB_true KB_false KNOD_val
  KNOD_new KNOD_ite n_mv n_pick n_bin n_eqB n_eqN n_eqS n_un n_conv n_fadd n_faddV n_fld1 n_fldN n_idx n_idxA n_idxV n_idxAV n_ext n_lenS n_lenS0 n_lenV n_lenT n_lenA n_min n_max
  n_build n_mkfn n_slc n_slc0 n_slcV n_slcA n_load1 n_loadN n_load1V n_loadNV n_alloc n_box n_bsl n_mksl n_nilcP n_nilcV n_nilcI n_nilcF x_store x_clear0 x_clear b_add b_sub b_mul
  b_eql b_neq b_lss b_leq b_gtr b_geq b_and16 unV ntouch gather hide unhide evalOpd applyOuts int_bne int_beq ite_bool ite_int one_bool cells_bool one_int cells_int one_str cells_str
  one_nilp cells_nilp one_ptr cells_ptr one_nils cells_nils one_sl cells_sl one_nilf cells_nilf one_fn cells_fn one_nili cells_nili one_mp cells_mp one_nilm cells_nilm one_iface
  cells_iface one_vs cells_vs one_vp cells_vp cells_agg Nat.testBit setAt_1 setAt_2 closeds_nil closeds_cons closed_bool closed_int closed_str closed_nilp closed_nils closed_nilm
  closed_nilf closed_nili closed_agg closed_tup closed_vs closed_vp closed_iface closed_fn closeds_cI closeds_cE viewA_closed viewR_closed AV.scal AV.scal0 fillA repA part_bool
  part_int part_str part_nilp part_ptr part_nils part_sl part_nilm part_mp part_nilf part_fn part_nili part_iface part_agg part_vs part_vp viewA_sl1 vaSl_cells wrap_0 wrap_1 wrap_2
  wrap_m1 set_last get_last
/-- What the laws on part ask of the functions. -/
structure SP (A : AProg) (φ : Nat → Nat) : Prop where
  new : Has A (φ 60) (f60 φ)
  is : Has A (φ 80) (f80 φ)
  top : Has A (φ 81) (f81 φ)
  join : Has A (φ 64) (f64 φ)
  same : Has A (φ 62) (f62 φ)
  count : Has A (φ 66) (f66 φ)
  classes : A.ext (φ 68) = some clsExt
  rows : ∀ v u xs ys, IsRows v xs → IsRows u ys → xs.length < 1000000 → (∀ l ∈ xs, l.length < 1000000) → PVal A (φ 70) [v, u] (.bool (decide (xs = ys)))
def rd (N : Int) (x : Int) : Nat := ((x % 65536).tmod N).toNat
theorem cls_len {N : Nat} {r : Nat → Nat} : (cls r N).length ≤ N ∧ ∀ l ∈ cls r N, l.length ≤ N := by
  unfold cls
  refine ⟨?_, fun l hl => ?_⟩
  · rw [List.length_map]; exact Nat.le_trans (List.length_filter_le _ _) (by simp)
  · obtain ⟨i, _, rfl⟩ := List.mem_map.1 hl
    exact gcl_len _ _ _
theorem PS.keep {H H' : Heap} {b bu bs N : Nat} {r : Nat → Nat} {cnt : Int} (p : PS H b bu bs N r cnt) (h : ∀ k, k = b ∨ k = bu ∨ k = bs → H'[k]? = H[k]?) : PS H' b bu bs N r cnt := by
  obtain ⟨up, sz, pa, hr⟩ := p
  exact ⟨up, sz, ⟨(h b (.inl rfl)).trans pa.hb, (h bu (.inr (.inl rfl))).trans pa.hu, (h bs (.inr (.inr rfl))).trans pa.hs, pa.lu, pa.ls, pa.ne⟩, hr⟩
theorem PSJ.keep {H H' : Heap} {b bu bs N : Nat} {ps : List (Nat × Nat)} (p : PSJ H b bu bs N ps) (h : ∀ k, k = b ∨ k = bu ∨ k = bs → H'[k]? = H[k]?) : PSJ H' b bu bs N ps := by
  obtain ⟨r, cnt, p, j⟩ := p
  exact ⟨r, cnt, p.keep h, j⟩
end Go.Ai.G
/- PartCounts. -/
namespace Go.Ai.G
open Go.Ai
set_option maxRecDepth 100000
set_option linter.unusedSimpArgs false
set_option linter.unusedVariables false
variable {A : AProg} {φ : Nat → Nat}
attribute [local simp ↓] getD_z getD_s hid_k hid_o hid_q hid_v PO_nil PO_none PO_grd PD_nil PD_none PD_grd PDO_N PDO_X PDO_call PDO_calli PDO_callv PStep_N PStep_X PStep_call PStep_calli PC_skip PC_lab
  PC_ret PC_exit PC_reg PC_draw PC_seq PC_block PC_loop PC_scope PC_cond thenC_norm thenC_ret thenC_exit blockC_norm blockC_ret blockC_exit loopC_norm loopC_ret loopC_exit endR_ret
  endR_norm
attribute [local simp] gz PDX_free PDX_eq PStep_callv resK_none resK_t resK_tt KNO_val KNO_new KNO_ite KNO_map KXO_some KXO_ite KVA_t KVA_f KG_skip KG_tt KG_ff KG_tf KG_ft KB_true KB_false KNOD_val
  KNOD_new KNOD_ite n_mv n_pick n_bin n_eqB n_eqN n_eqS n_un n_conv n_fadd n_faddV n_fld1 n_fldN n_idx n_idxA n_idxV n_idxAV n_ext n_lenS n_lenS0 n_lenV n_lenT n_lenA n_min n_max
  n_build n_mkfn n_slc n_slc0 n_slcV n_slcA n_load1 n_loadN n_load1V n_loadNV n_alloc n_box n_bsl n_mksl n_nilcP n_nilcV n_nilcI n_nilcF x_store x_clear0 x_clear b_add b_sub b_mul
  b_eql b_neq b_lss b_leq b_gtr b_geq b_and16 unV ntouch gather hide unhide evalOpd applyOuts int_bne int_beq ite_bool ite_int one_bool cells_bool one_int cells_int one_str cells_str
  one_nilp cells_nilp one_ptr cells_ptr one_nils cells_nils one_sl cells_sl one_nilf cells_nilf one_fn cells_fn one_nili cells_nili one_mp cells_mp one_nilm cells_nilm one_iface
  cells_iface one_vs cells_vs one_vp cells_vp cells_agg Nat.testBit setAt_1 setAt_2 closeds_nil closeds_cons closed_bool closed_int closed_str closed_nilp closed_nils closed_nilm
  closed_nilf closed_nili closed_agg closed_tup closed_vs closed_vp closed_iface closed_fn closeds_cI closeds_cE viewA_closed viewR_closed AV.scal AV.scal0 fillA repA part_bool
  part_int part_str part_nilp part_ptr part_nils part_sl part_nilm part_mp part_nilf part_fn part_nili part_iface part_agg part_vs part_vp viewA_sl1 vaSl_cells wrap_0 wrap_1 wrap_2
  wrap_m1 set_last get_last
theorem gcl_ne {r : Nat → Nat} {N i : Nat} (hi : i < N) : gcl r N (r i) ≠ [] := fun h => by
  have : (i : Int) ∈ gcl r N (r i) := (gcl_mem _ _ _ _).2 ⟨i, hi, rfl, rfl⟩
  rw [h] at this; simp at this
end Go.Ai.G
/- part.Of. -/
namespace Go.Ai.G
open Go.Ai
set_option maxRecDepth 100000
set_option linter.unusedSimpArgs false
set_option linter.unusedVariables false
variable {A : AProg} {φ : Nat → Nat}
attribute [local simp ↓] getD_z getD_s hid_k hid_o hid_q hid_v PO_nil PO_none PO_grd PD_nil PD_none PD_grd PDO_N PDO_X PDO_call PDO_calli PDO_callv PStep_N PStep_X PStep_call PStep_calli PC_skip PC_lab
  PC_ret PC_exit PC_reg PC_draw PC_seq PC_block PC_loop PC_scope PC_cond thenC_norm thenC_ret thenC_exit blockC_norm blockC_ret blockC_exit loopC_norm loopC_ret loopC_exit endR_ret
  endR_norm
attribute [local simp] gz PDX_free PDX_eq PStep_callv resK_none resK_t resK_tt KNO_val KNO_new KNO_ite KNO_map KXO_some KXO_ite KVA_t KVA_f KG_skip KG_tt KG_ff KG_tf KG_ft KB_true KB_false KNOD_val
  KNOD_new KNOD_ite n_mv n_pick n_bin n_eqB n_eqN n_eqS n_un n_conv n_fadd n_faddV n_fld1 n_fldN n_idx n_idxA n_idxV n_idxAV n_ext n_lenS n_lenS0 n_lenV n_lenT n_lenA n_min n_max
  n_build n_mkfn n_slc n_slc0 n_slcV n_slcA n_load1 n_loadN n_load1V n_loadNV n_alloc n_box n_bsl n_mksl n_nilcP n_nilcV n_nilcI n_nilcF x_store x_clear0 x_clear b_add b_sub b_mul
  b_eql b_neq b_lss b_leq b_gtr b_geq b_and16 unV ntouch gather hide unhide evalOpd applyOuts int_bne int_beq ite_bool ite_int one_bool cells_bool one_int cells_int one_str cells_str
  one_nilp cells_nilp one_ptr cells_ptr one_nils cells_nils one_sl cells_sl one_nilf cells_nilf one_fn cells_fn one_nili cells_nili one_mp cells_mp one_nilm cells_nilm one_iface
  cells_iface one_vs cells_vs one_vp cells_vp cells_agg Nat.testBit setAt_1 setAt_2 closeds_nil closeds_cons closed_bool closed_int closed_str closed_nilp closed_nils closed_nilm
  closed_nilf closed_nili closed_agg closed_tup closed_vs closed_vp closed_iface closed_fn closeds_cI closeds_cE viewA_closed viewR_closed AV.scal AV.scal0 fillA repA part_bool
  part_int part_str part_nilp part_ptr part_nils part_sl part_nilm part_mp part_nilf part_fn part_nili part_iface part_agg part_vs part_vp viewA_sl1 vaSl_cells wrap_0 wrap_1 wrap_2
  wrap_m1 set_last get_last
theorem er72_0 (φ : Nat → Nat) : r72_0 φ = [
  ⟨0, .N .box, [.n 0], none, 0⟩,
  ⟨1, .N .mv, [.c (.nils)], none, 0⟩] := Eq.trans rfl rfl
theorem er72_1 (φ : Nat → Nat) : r72_1 φ = [
  ⟨0, .N (.loadN 2), [.n 1], none, 0⟩,
  ⟨1, .calli true (φ 4), [.l 0], none, 0⟩,
  ⟨2, .N (.un .not), [.l 0], none, 0⟩] := Eq.trans rfl rfl
theorem er72_2 (φ : Nat → Nat) : r72_2 φ = [
  ⟨0, .N .mv, [.c (.nils)], none, 0⟩] := Eq.trans rfl rfl
theorem er72_3 (φ : Nat → Nat) : r72_3 φ = [
  ⟨0, .N (.fadd 0), [.n 1], none, 0⟩,
  ⟨1, .N .load1, [.l 0], none, 0⟩,
  ⟨2, .call (φ 60), [.l 0], none, 0⟩,
  ⟨3, .N .mv, [.l 0], none, 0⟩] := Eq.trans rfl rfl
theorem er72_4 (φ : Nat → Nat) : r72_4 φ = [
  ⟨0, .N (.fadd 1), [.n 1], none, 0⟩,
  ⟨1, .N .load1, [.l 0], none, 0⟩,
  ⟨2, .N .lenS, [.l 0], none, 0⟩,
  ⟨3, .N .mv, [.c (.int .i64 0)], none, 0⟩] := Eq.trans rfl rfl
theorem er72_5 (φ : Nat → Nat) : r72_5 φ = [
  ⟨0, .N (.bin .lss), [.n 8, .n 7], none, 0⟩] := Eq.trans rfl rfl
theorem er72_6 (φ : Nat → Nat) : r72_6 φ = [
  ⟨0, .N (.idx 2), [.n 6, .n 8], none, 0⟩,
  ⟨1, .N (.loadN 2), [.l 0], none, 0⟩,
  ⟨2, .N (.alloc [.int .i64 0, .int .i64 0]), [], none, 0⟩,
  ⟨3, .X (.store 2), [.l 0, .l 1], none, 0⟩] := Eq.trans rfl rfl
theorem er72_7 (φ : Nat → Nat) : r72_7 φ = [
  ⟨0, .N .mv, [.n 3], none, 0⟩,
  ⟨1, .N (.fadd 0), [.n 4], none, 0⟩,
  ⟨2, .N .load1, [.l 0], none, 0⟩,
  ⟨3, .N (.fadd 1), [.n 4], none, 0⟩,
  ⟨4, .N .load1, [.l 0], none, 0⟩,
  ⟨5, .call (φ 64), [.l 4, .l 2, .l 0], none, 0⟩] := Eq.trans rfl rfl
theorem er72_8 (φ : Nat → Nat) : r72_8 φ = [
  ⟨0, .N (.bin .add), [.n 8, .c (.int .i64 1)], none, 0⟩,
  ⟨1, .N .mv, [.l 0], none, 0⟩] := Eq.trans rfl rfl
theorem er72_10 (φ : Nat → Nat) : r72_10 φ = [
  ⟨0, .N .mv, [.n 3], none, 0⟩,
  ⟨1, .call (φ 68), [.l 0], none, 0⟩,
  ⟨2, .N .mv, [.l 0], none, 0⟩] := Eq.trans rfl rfl
/-- The edges' ends, as joins. -/
def npr (es : List Ed) : List (Nat × Nat) := es.map fun e => (e.1.toNat, e.2.toNat)
structure Own3 (N : Nat) (r : Nat → Nat) : Prop where
  lt : ∀ i, i < N → r i < N
  rr : ∀ i, i < N → r (r i) = r i
theorem joined_ex (N : Nat) : ∀ ps : List (Nat × Nat), (∀ p ∈ ps, p.1 < N ∧ p.2 < N) → ∃ r, Joined N ps r ∧ Own3 N r
  | [], _ => ⟨id, joined_nil N, ⟨fun i h => h, fun i _ => rfl⟩⟩
  | (a, c) :: ps, h => by
    obtain ⟨r, hj, hl, hr⟩ := joined_ex N ps fun p hp => h p (List.mem_cons_of_mem _ hp)
    obtain ⟨ha, hc⟩ := h (a, c) (List.mem_cons_self ..)
    have i1 : inN N (a : Int) := ⟨by omega, by omega⟩
    have i2 : inN N (c : Int) := ⟨by omega, by omega⟩
    have ta : ((a : Int)).toNat = a := by omega
    have tc : ((c : Int)).toNat = c := by omega
    by_cases e : r a = r c
    · exact ⟨r, joined_step (ok := false) (cnt := 0) (cnt' := 0) hj ha hc ⟨by symm; apply decide_eq_false; rw [ta, tc]; exact fun h => h.2.2 e, fun _ => ⟨rfl, rfl⟩, fun h => by cases h⟩, hl, hr⟩
    · refine ⟨fun i => if r i = r c then r a else r i, joined_step (ok := true) (cnt := 0) (cnt' := -1) hj ha hc ⟨by symm; apply decide_eq_true; rw [ta, tc]; exact ⟨i1, i2, e⟩, (fun h => by cases h), fun _ => ⟨by omega, r a, r c, e, .inl ⟨by rw [ta], by rw [tc]⟩, rfl⟩⟩, fun i hi => ?_, fun i hi => ?_⟩
      · show (if r i = r c then r a else r i) < N
        split
        · exact hl a ha
        · exact hl i hi
      · show (if r (if r i = r c then r a else r i) = r c then r a else r (if r i = r c then r a else r i)) = if r i = r c then r a else r i
        by_cases e2 : r i = r c
        · rw [if_pos e2, hr a ha, if_neg e]
        · rw [if_neg e2, hr i hi, if_neg e2]
theorem w_Of4 (h : Has A (φ 72) (f72 φ)) (g : SP A φ) (hRc : RightC A (φ 4)) (n : Int) (v : AV) (es : List Ed) (hv : IsE v es) (r0 : Nat → Nat) (hj0 : rightE n es = true → Joined n.toNat (npr es) r0) :
    PVal A (φ 72) [gV n v] (if rightE n es = true then rowsV (cls r0 n.toNat) else .nils) := by
  have hone := hv.one
  have hcl := hv.closed
  have hlen := hv.len
  have cR := (hRc n v es hv).eq
  refine pval_has h rfl ?_
  simp only [l72_9, b72, f72]
  by_cases hR : rightE n es = true
  · have hn := right_len hR
    have he := right_ends hR
    have hj := hj0 hR
    rw [if_pos hR]
    simp [hR] at cR
    obtain ⟨N, rfl⟩ : ∃ N : Nat, n = (N : Int) := ⟨n.toNat, by omega⟩
    have hNN : ((N : Int)).toNat = N := by omega
    rw [hNN] at hj ⊢
    have hclp : clampN (N : Int) = N := by unfold clampN; omega
    simp [-List.getD_eq_getElem?_getD, -Int.ofNat_toNat, -getElem?_pos, er72_0, er72_1, er72_2, er72_3, er72_4, er72_5, er72_6, er72_7, er72_8, er72_10, hone, hcl, cR]
    refine w_PNew g.new (N : Int) _ _ fun H1 p1 k1 l1 => ?_
    simp only [hid_k]
    rw [hclp] at p1
    have p1 : PS H1 3 1 2 N id N := p1
    have l1 : H1.length = 4 := l1
    have e0 : H1[0]? = some (.cells 0 false [.int .i64 N, v]) := by rw [k1 0 (by simp)]; rfl
    simp [-List.getD_eq_getElem?_getD, -Int.ofNat_toNat, -getElem?_pos, er72_0, er72_1, er72_2, er72_3, er72_4, er72_5, er72_6, er72_7, er72_8, er72_10, e0, hlen]
    refine pc_loopI (fun m st => ∃ (i : Nat) (x p9 : AV) (H : Heap), i + m = es.length ∧ PSJ H 3 1 2 N (npr (es.take i)).reverse ∧ 4 ≤ H.length ∧ st = ([gV N v, .ptr 0 0 0, .nils, .ptr 3 0 0, x, .bool false, v, .int .i64 es.length, .int .i64 i, p9], H)) es.length
      ⟨0, _, _, H1, by simp, ⟨id, _, p1, joined_nil N, by rw [roots_id]⟩, by omega, rfl⟩ ?_
    rintro m st ⟨i, x, p9, H, hi, hp, hHl, rfl⟩
    by_cases hlt : i < es.length
    · have hlt' : (i : Int) < es.length := by omega
      obtain ⟨i1, z1, z2, le1, t1⟩ := hv.at hlt
      have hw1 := wrap1 hlt (by omega)
      have hts : es.take (i + 1) = es.take i ++ [es[i]] := List.take_succ_eq_append_getElem hlt
      have hends := he _ (List.getElem_mem hlt)
      obtain ⟨a, ha⟩ : ∃ a : Nat, es[i].1 = (a : Int) := ⟨es[i].1.toNat, by omega⟩
      obtain ⟨c, hc⟩ : ∃ c : Nat, es[i].2 = (c : Int) := ⟨es[i].2.toNat, by omega⟩
      have hps : (npr (es.take (i + 1))).reverse = (a, c) :: (npr (es.take i)).reverse := by
        rw [hts]; unfold npr; rw [List.map_append, List.reverse_append, List.map_cons, ha, hc]
        simp
      rw [ha] at z1 t1 hends
      rw [hc] at z2 t1 hends
      simp [-List.getD_eq_getElem?_getD, -Int.ofNat_toNat, -getElem?_pos, er72_0, er72_1, er72_2, er72_3, er72_4, er72_5, er72_6, er72_7, er72_8, er72_10, hlt', hlt, i1, z1, z2, le1, t1, get_at, get_at0, set_at, set_at0]
      have hp' : PSJ (H ++ [.cells 0 false [.int .i64 a, .int .i64 c]]) 3 1 2 N (npr (es.take i)).reverse := hp.keep fun k hk => List.getElem?_append_left (by omega)
      refine w_JoinJ g.join g.is g.top hp' (by omega) (a := a) (c := c) (by omega) (by omega) _ fun H' ok hp2 hk hl => ?_
      simp only [hid_k]
      simp [-List.getD_eq_getElem?_getD, -Int.ofNat_toNat, -getElem?_pos, er72_0, er72_1, er72_2, er72_3, er72_4, er72_5, er72_6, er72_7, er72_8, er72_10, hw1]
      exact next_mk (m - 1) (by omega) ⟨i + 1, _, _, H', by omega, by rw [hps]; exact hp2, by rw [hl]; simp; omega, rfl⟩
    · have hlt' : ¬ (i : Int) < es.length := by omega
      rw [List.take_of_length_le (by omega)] at hp
      obtain ⟨r, cnt, pp, jp, _⟩ := hp
      have hcls : cls r N = cls r0 N := cls_rel (joined_rel jp hj (fun a b hm => .of (List.mem_reverse.1 hm)) (fun a b hm => .of (List.mem_reverse.2 hm)))
      have hclo := (isRows_v (cls r0 N)).closed
      simp [-List.getD_eq_getElem?_getD, -Int.ofNat_toNat, -getElem?_pos, er72_0, er72_1, er72_2, er72_3, er72_4, er72_5, er72_6, er72_7, er72_8, er72_10, hlt', hlt]
      refine w_Classes g.classes pp (by omega) _ fun H3 pp3 k3' l3 => ?_
      simp only [hid_k]
      rw [hcls]
      simp [-List.getD_eq_getElem?_getD, -Int.ofNat_toNat, -getElem?_pos, er72_0, er72_1, er72_2, er72_3, er72_4, er72_5, er72_6, er72_7, er72_8, er72_10, hclo, resK, resVs, resV, pack]
  · simp only [Bool.not_eq_true] at hR
    rw [if_neg (by simp [hR])]
    simp [hR] at cR
    simp [-List.getD_eq_getElem?_getD, -Int.ofNat_toNat, -getElem?_pos, er72_0, er72_1, er72_2, er72_3, er72_4, er72_5, er72_6, er72_7, er72_8, er72_10, hone, hcl, cR, resK, resVs, resV, pack]
end Go.Ai.G
/- PartBridge. -/
namespace Go.Ai.G
open Go.Ai
set_option maxRecDepth 100000
set_option linter.unusedSimpArgs false
set_option linter.unusedVariables false
variable {A : AProg} {φ : Nat → Nat}
attribute [local simp ↓] getD_z getD_s hid_k hid_o hid_q hid_v PO_nil PO_none PO_grd PD_nil PD_none PD_grd PDO_N PDO_X PDO_call PDO_calli PDO_callv PStep_N PStep_X PStep_call PStep_calli PC_skip PC_lab
  PC_ret PC_exit PC_reg PC_draw PC_seq PC_block PC_loop PC_scope PC_cond thenC_norm thenC_ret thenC_exit blockC_norm blockC_ret blockC_exit loopC_norm loopC_ret loopC_exit endR_ret
  endR_norm
attribute [local simp] gz PDX_free PDX_eq PStep_callv resK_none resK_t resK_tt KNO_val KNO_new KNO_ite KNO_map KXO_some KXO_ite KVA_t KVA_f KG_skip KG_tt KG_ff KG_tf KG_ft KB_true KB_false KNOD_val
  KNOD_new KNOD_ite n_mv n_pick n_bin n_eqB n_eqN n_eqS n_un n_conv n_fadd n_faddV n_fld1 n_fldN n_idx n_idxA n_idxV n_idxAV n_ext n_lenS n_lenS0 n_lenV n_lenT n_lenA n_min n_max
  n_build n_mkfn n_slc n_slc0 n_slcV n_slcA n_load1 n_loadN n_load1V n_loadNV n_alloc n_box n_bsl n_mksl n_nilcP n_nilcV n_nilcI n_nilcF x_store x_clear0 x_clear b_add b_sub b_mul
  b_eql b_neq b_lss b_leq b_gtr b_geq b_and16 unV ntouch gather hide unhide evalOpd applyOuts int_bne int_beq ite_bool ite_int one_bool cells_bool one_int cells_int one_str cells_str
  one_nilp cells_nilp one_ptr cells_ptr one_nils cells_nils one_sl cells_sl one_nilf cells_nilf one_fn cells_fn one_nili cells_nili one_mp cells_mp one_nilm cells_nilm one_iface
  cells_iface one_vs cells_vs one_vp cells_vp cells_agg Nat.testBit setAt_1 setAt_2 closeds_nil closeds_cons closed_bool closed_int closed_str closed_nilp closed_nils closed_nilm
  closed_nilf closed_nili closed_agg closed_tup closed_vs closed_vp closed_iface closed_fn closeds_cI closeds_cE viewA_closed viewR_closed AV.scal AV.scal0 fillA repA part_bool
  part_int part_str part_nilp part_ptr part_nils part_sl part_nilm part_mp part_nilf part_fn part_nili part_iface part_agg part_vs part_vp viewA_sl1 vaSl_cells wrap_0 wrap_1 wrap_2
  wrap_m1 set_last get_last
structure SB (A : AProg) (φ : Nat → Nat) : Prop where
  p : SP A φ
  of : Has A (φ 72) (f72 φ)
  right : RightC A (φ 4)
  any : ∀ n most v l, IsE v l → 0 ≤ most → most ≤ 1000 → PVal A (φ 22) [.int .i64 n, v, .int .i64 most] (gV (anyN n most) (rE (anyE n most l)))
  inn : ∀ v xs x, IsI v xs → xs.length < 1000000000000 → PVal A (φ 25) [v, .int .i64 x] (.bool (decide (x ∈ xs)))
structure SB2 (A : AProg) (φ : Nat → Nat) : Prop where
  b : Go.Ai.G.SB A φ
  add : ∀ n a b v es, IsE v es → PVal A (φ 15) [gV n v, .int .i64 a, .int .i64 b] (gR (addE n es a b))
theorem npr_lt {N : Nat} {es : List Ed} (h : rightE (N : Int) es = true) : ∀ p ∈ npr es, p.1 < N ∧ p.2 < N := by
  intro p hp
  obtain ⟨e, he, rfl⟩ := List.mem_map.1 hp
  have := right_ends h e he
  simp only; omega
end Go.Ai.G
/- ref04: New, Is, Same, Join, Count. -/
namespace Go.Ai.G
open Go.Ai
set_option maxRecDepth 100000
set_option linter.unusedSimpArgs false
set_option linter.unusedVariables false
variable {A : AProg} {φ : Nat → Nat}
attribute [local simp ↓] getD_z getD_s hid_k hid_o hid_q hid_v PO_nil PO_none PO_grd PD_nil PD_none PD_grd PDO_N PDO_X PDO_call PDO_calli PDO_callv PStep_N PStep_X PStep_call PStep_calli PC_skip PC_lab
  PC_ret PC_exit PC_reg PC_draw PC_seq PC_block PC_loop PC_scope PC_cond thenC_norm thenC_ret thenC_exit blockC_norm blockC_ret blockC_exit loopC_norm loopC_ret loopC_exit endR_ret
  endR_norm
attribute [local simp] gz PDX_free PDX_eq PStep_callv resK_none resK_t resK_tt KNO_val KNO_new KNO_ite KNO_map KXO_some KXO_ite KVA_t KVA_f KG_skip KG_tt KG_ff KG_tf KG_ft KB_true KB_false KNOD_val
  KNOD_new KNOD_ite n_mv n_pick n_bin n_eqB n_eqN n_eqS n_un n_conv n_fadd n_faddV n_fld1 n_fldN n_idx n_idxA n_idxV n_idxAV n_ext n_lenS n_lenS0 n_lenV n_lenT n_lenA n_min n_max
  n_build n_mkfn n_slc n_slc0 n_slcV n_slcA n_load1 n_loadN n_load1V n_loadNV n_alloc n_box n_bsl n_mksl n_nilcP n_nilcV n_nilcI n_nilcF x_store x_clear0 x_clear b_add b_sub b_mul
  b_eql b_neq b_lss b_leq b_gtr b_geq b_and16 unV ntouch gather hide unhide evalOpd applyOuts int_bne int_beq ite_bool ite_int one_bool cells_bool one_int cells_int one_str cells_str
  one_nilp cells_nilp one_ptr cells_ptr one_nils cells_nils one_sl cells_sl one_nilf cells_nilf one_fn cells_fn one_nili cells_nili one_mp cells_mp one_nilm cells_nilm one_iface
  cells_iface one_vs cells_vs one_vp cells_vp cells_agg Nat.testBit setAt_1 setAt_2 closeds_nil closeds_cons closed_bool closed_int closed_str closed_nilp closed_nils closed_nilm
  closed_nilf closed_nili closed_agg closed_tup closed_vs closed_vp closed_iface closed_fn closeds_cI closeds_cE viewA_closed viewR_closed AV.scal AV.scal0 fillA repA part_bool
  part_int part_str part_nilp part_ptr part_nils part_sl part_nilm part_mp part_nilf part_fn part_nili part_iface part_agg part_vs part_vp viewA_sl1 vaSl_cells wrap_0 wrap_1 wrap_2
  wrap_m1 set_last get_last
/-- The reference's Part in the memory: its struct at q, the least ones in blocks behind it. -/
def RP (H : Heap) (q : Nat) (L : List Int) : Prop := ∃ o, H[q]? = some (.cells 0 false [o]) ∧ OwnI true (q + 1) H o L
theorem RP.keep {H H' : Heap} {q : Nat} {L : List Int} (p : RP H q L) (h : ∀ k, q ≤ k → k < H.length → H'[k]? = H[k]?) : RP H' q L := by
  obtain ⟨o, h1, h2⟩ := p
  exact ⟨o, (h q (Nat.le_refl _) (lt_of_get h1)).trans h1, Own.keep h2 fun b hb hbe => h b (by have := (Own.blk h2 hbe).1; omega) hb⟩
end Go.Ai.G
/- ref04: Join, Classes. -/
namespace Go.Ai.G
open Go.Ai
set_option maxRecDepth 100000
set_option linter.unusedSimpArgs false
set_option linter.unusedVariables false
variable {A : AProg} {φ : Nat → Nat}
attribute [local simp ↓] getD_z getD_s hid_k hid_o hid_q hid_v PO_nil PO_none PO_grd PD_nil PD_none PD_grd PDO_N PDO_X PDO_call PDO_calli PDO_callv PStep_N PStep_X PStep_call PStep_calli PC_skip PC_lab
  PC_ret PC_exit PC_reg PC_draw PC_seq PC_block PC_loop PC_scope PC_cond thenC_norm thenC_ret thenC_exit blockC_norm blockC_ret blockC_exit loopC_norm loopC_ret loopC_exit endR_ret
  endR_norm
attribute [local simp] gz PDX_free PDX_eq PStep_callv resK_none resK_t resK_tt KNO_val KNO_new KNO_ite KNO_map KXO_some KXO_ite KVA_t KVA_f KG_skip KG_tt KG_ff KG_tf KG_ft KB_true KB_false KNOD_val
  KNOD_new KNOD_ite n_mv n_pick n_bin n_eqB n_eqN n_eqS n_un n_conv n_fadd n_faddV n_fld1 n_fldN n_idx n_idxA n_idxV n_idxAV n_ext n_lenS n_lenS0 n_lenV n_lenT n_lenA n_min n_max
  n_build n_mkfn n_slc n_slc0 n_slcV n_slcA n_load1 n_loadN n_load1V n_loadNV n_alloc n_box n_bsl n_mksl n_nilcP n_nilcV n_nilcI n_nilcF x_store x_clear0 x_clear b_add b_sub b_mul
  b_eql b_neq b_lss b_leq b_gtr b_geq b_and16 unV ntouch gather hide unhide evalOpd applyOuts int_bne int_beq ite_bool ite_int one_bool cells_bool one_int cells_int one_str cells_str
  one_nilp cells_nilp one_ptr cells_ptr one_nils cells_nils one_sl cells_sl one_nilf cells_nilf one_fn cells_fn one_nili cells_nili one_mp cells_mp one_nilm cells_nilm one_iface
  cells_iface one_vs cells_vs one_vp cells_vp cells_agg Nat.testBit setAt_1 setAt_2 closeds_nil closeds_cons closed_bool closed_int closed_str closed_nilp closed_nils closed_nilm
  closed_nilf closed_nili closed_agg closed_tup closed_vs closed_vp closed_iface closed_fn closeds_cI closeds_cE viewA_closed viewR_closed AV.scal AV.scal0 fillA repA part_bool
  part_int part_str part_nilp part_ptr part_nils part_sl part_nilm part_mp part_nilf part_fn part_nili part_iface part_agg part_vs part_vp viewA_sl1 vaSl_cells wrap_0 wrap_1 wrap_2
  wrap_m1 set_last get_last
structure JoinL (L L' : List Int) (a c : Int) (ok : Bool) : Prop where
  val : ok = decide (inN L.length a ∧ inN L.length c ∧ L.getD a.toNat 0 ≠ L.getD c.toNat 0)
  no : ok = false → L' = L
  yes : ok = true → L' = L.map fun z => if z = max (L.getD a.toNat 0) (L.getD c.toNat 0) then min (L.getD a.toNat 0) (L.getD c.toNat 0) else z
/-- The class of i, told so far. -/
def lrowK (L : List Int) (i k : Nat) : List Int := ((List.range k).filter fun j => decide (i ≤ j ∧ L.getD j 0 = (i : Int))).map fun (j : Nat) => (j : Int)
def lrowsK (L : List Int) (i : Nat) : List (List Int) := ((List.range i).filter fun j => decide (L.getD j 0 = (j : Int))).map fun j => lrowK L j L.length
end Go.Ai.G
/- PartTells. -/
namespace Go.Ai.G
open Go.Ai
set_option maxRecDepth 100000
set_option linter.unusedSimpArgs false
set_option linter.unusedVariables false
variable {A : AProg} {φ : Nat → Nat}
attribute [local simp ↓] getD_z getD_s hid_k hid_o hid_q hid_v PO_nil PO_none PO_grd PD_nil PD_none PD_grd PDO_N PDO_X PDO_call PDO_calli PDO_callv PStep_N PStep_X PStep_call PStep_calli PC_skip PC_lab
  PC_ret PC_exit PC_reg PC_draw PC_seq PC_block PC_loop PC_scope PC_cond thenC_norm thenC_ret thenC_exit blockC_norm blockC_ret blockC_exit loopC_norm loopC_ret loopC_exit endR_ret
  endR_norm
attribute [local simp] gz PDX_free PDX_eq PStep_callv resK_none resK_t resK_tt KNO_val KNO_new KNO_ite KNO_map KXO_some KXO_ite KVA_t KVA_f KG_skip KG_tt KG_ff KG_tf KG_ft KB_true KB_false KNOD_val
  KNOD_new KNOD_ite n_mv n_pick n_bin n_eqB n_eqN n_eqS n_un n_conv n_fadd n_faddV n_fld1 n_fldN n_idx n_idxA n_idxV n_idxAV n_ext n_lenS n_lenS0 n_lenV n_lenT n_lenA n_min n_max
  n_build n_mkfn n_slc n_slc0 n_slcV n_slcA n_load1 n_loadN n_load1V n_loadNV n_alloc n_box n_bsl n_mksl n_nilcP n_nilcV n_nilcI n_nilcF x_store x_clear0 x_clear b_add b_sub b_mul
  b_eql b_neq b_lss b_leq b_gtr b_geq b_and16 unV ntouch gather hide unhide evalOpd applyOuts int_bne int_beq ite_bool ite_int one_bool cells_bool one_int cells_int one_str cells_str
  one_nilp cells_nilp one_ptr cells_ptr one_nils cells_nils one_sl cells_sl one_nilf cells_nilf one_fn cells_fn one_nili cells_nili one_mp cells_mp one_nilm cells_nilm one_iface
  cells_iface one_vs cells_vs one_vp cells_vp cells_agg Nat.testBit setAt_1 setAt_2 closeds_nil closeds_cons closed_bool closed_int closed_str closed_nilp closed_nils closed_nilm
  closed_nilf closed_nili closed_agg closed_tup closed_vs closed_vp closed_iface closed_fn closeds_cI closeds_cE viewA_closed viewR_closed AV.scal AV.scal0 fillA repA part_bool
  part_int part_str part_nilp part_ptr part_nils part_sl part_nilm part_mp part_nilf part_fn part_nili part_iface part_agg part_vs part_vp viewA_sl1 vaSl_cells wrap_0 wrap_1 wrap_2
  wrap_m1 set_last get_last
/-- Each number has the least one of its class. -/
def LR (N : Nat) (r : Nat → Nat) (L : List Int) : Prop := L.length = N ∧ ∀ i, i < N → ∃ k : Nat, L.getD i 0 = (k : Int) ∧ k < N ∧ r k = r i ∧ ∀ j, j < N → r j = r i → k ≤ j
theorem LR.same {N : Nat} {r : Nat → Nat} {L : List Int} (h : LR N r L) {i j : Nat} (hi : i < N) (hj : j < N) : L.getD i 0 = L.getD j 0 ↔ r i = r j := by
  obtain ⟨k, h1, h2, h3, h4⟩ := h.2 i hi
  obtain ⟨k', h1', h2', h3', h4'⟩ := h.2 j hj
  rw [h1, h1']
  constructor
  · intro e
    have : k = k' := by omega
    subst this
    rw [← h3, h3']
  · intro e
    have a1 := h4 k' h2' (by rw [h3', e])
    have a2 := h4' k h2 (by rw [h3, e])
    omega
theorem LR.join {N : Nat} {r r' : Nat → Nat} {L L' : List Int} {a c cnt cnt' : Int} {ok ok' : Bool} (h : LR N r L) (j : JoinR N r r' a c ok cnt cnt') (k : JoinL L L' a c ok') : ok = ok' ∧ LR N r' L' := by
  have he : ok = ok' := by
    rw [j.val, k.val, decide_eq_decide, h.1]
    refine and_congr_right fun ha => and_congr_right fun hc => not_congr ?_
    exact (h.same (by have := ha.1; have := ha.2; omega) (by have := hc.1; have := hc.2; omega)).symm
  refine ⟨he, ?_⟩
  subst he
  cases hok : ok with
  | false => rw [k.no hok, (j.no hok).1]; exact h
  | true =>
    have hv := j.val
    rw [hok] at hv
    obtain ⟨ha, hc, hne⟩ := of_decide_eq_true hv.symm
    obtain ⟨A, rfl⟩ : ∃ A : Nat, a = (A : Int) := ⟨a.toNat, by have := ha.1; omega⟩
    obtain ⟨C, rfl⟩ : ∃ C : Nat, c = (C : Int) := ⟨c.toNat, by have := hc.1; omega⟩
    have hA : A < N := by have := ha.2; omega
    have hC : C < N := by have := hc.2; omega
    simp only [Int.toNat_natCast] at hne
    have hL := k.yes hok
    obtain ⟨_, x, y, hxy, hor, hr'⟩ := j.yes hok
    simp only [Int.toNat_natCast] at hor hL
    obtain ⟨ka, a1, a2, a3, a4⟩ := h.2 A hA
    obtain ⟨kc, c1, c2, c3, c4⟩ := h.2 C hC
    rw [a1, c1] at hL
    have hkk : ka ≠ kc := fun e => hne (by rw [← a3, ← c3, e])
    refine ⟨by rw [hL, List.length_map]; exact h.1, fun i hi => ?_⟩
    obtain ⟨ki, i1, i2, i3, i4⟩ := h.2 i hi
    have hg : L'.getD i 0 = (fun z : Int => if z = max (ka : Int) kc then min (ka : Int) kc else z) (ki : Int) := by
      have hil : i < L.length := by rw [h.1]; exact hi
      rw [hL, List.getD_eq_getElem?_getD, List.getElem?_map]
      rw [List.getD_eq_getElem?_getD] at i1
      rw [List.getElem?_eq_getElem hil] at i1 ⊢
      simp only [Option.getD_some] at i1
      simp only [Option.map_some, Option.getD_some, i1]
    have hmin : ∀ M : Nat, (M = ka ∨ M = kc) → (M ≤ ka ∧ M ≤ kc) → (r i = r A ∨ r i = r C) → L'.getD i 0 = (M : Int) → ∃ k : Nat, L'.getD i 0 = (k : Int) ∧ k < N ∧ r' k = r' i ∧ ∀ j, j < N → r' j = r' i → k ≤ j := by
      intro M hM hle hri hgM
      have hx : ∀ t, (r t = r A ∨ r t = r C) → r' t = x := by
        intro t ht
        rw [hr']
        simp only
        rcases hor with ⟨h1, h2⟩ | ⟨h1, h2⟩ <;> rcases ht with ht | ht
        · rw [if_neg (by rw [ht, ← h1]; exact hxy), ht, h1]
        · rw [if_pos (by rw [ht, h2])]
        · rw [if_pos (by rw [ht, h2])]
        · rw [if_neg (by rw [ht, ← h1]; exact hxy), ht, h1]
      refine ⟨M, hgM, by rcases hM with h | h <;> omega, ?_, fun j hj hjr => ?_⟩
      · rw [hx i hri, hx M (by rcases hM with h | h <;> subst h; exact .inl a3; exact .inr c3)]
      · rw [hx i hri, hr'] at hjr
        simp only at hjr
        have hjj : r j = r A ∨ r j = r C := by
          by_cases e : r j = y
          · rcases hor with ⟨h1, h2⟩ | ⟨h1, h2⟩
            · right; rw [e, h2]
            · left; rw [e, h2]
          · rw [if_neg e] at hjr
            rcases hor with ⟨h1, h2⟩ | ⟨h1, h2⟩
            · left; rw [hjr, h1]
            · right; rw [hjr, h1]
        rcases hjj with e | e
        · have := a4 j hj e; omega
        · have := c4 j hj e; omega
    by_cases q1 : r i = r A
    · have : ki = ka := by
        have b1 := i4 ka a2 (by rw [a3, q1])
        have b2 := a4 ki i2 (by rw [i3, q1])
        omega
      subst this
      simp only at hg
      by_cases q : ki ≤ kc
      · rw [if_neg (by omega)] at hg
        exact hmin ki (.inl rfl) ⟨Nat.le_refl _, q⟩ (.inl q1) hg
      · rw [if_pos (by omega)] at hg
        exact hmin kc (.inr rfl) ⟨by omega, Nat.le_refl _⟩ (.inl q1) (by rw [hg]; omega)
    · by_cases q2 : r i = r C
      · have : ki = kc := by
          have b1 := i4 kc c2 (by rw [c3, q2])
          have b2 := c4 ki i2 (by rw [i3, q2])
          omega
        subst this
        simp only at hg
        by_cases q : ki ≤ ka
        · rw [if_neg (by omega)] at hg
          exact hmin ki (.inr rfl) ⟨q, Nat.le_refl _⟩ (.inr q2) hg
        · rw [if_pos (by omega)] at hg
          exact hmin ka (.inl rfl) ⟨Nat.le_refl _, by omega⟩ (.inr q2) (by rw [hg]; omega)
      · have n1 : ki ≠ ka := fun e => q1 (by rw [← i3, e, a3])
        have n2 : ki ≠ kc := fun e => q2 (by rw [← i3, e, c3])
        simp only at hg
        rw [if_neg (by omega)] at hg
        have hother : ∀ t, r t = r i → r' t = r i := by
          intro t ht
          rw [hr']
          simp only
          rw [if_neg (by rw [ht]; rcases hor with ⟨h1, h2⟩ | ⟨h1, h2⟩ <;> rw [h2] <;> assumption), ht]
        refine ⟨ki, hg, i2, by rw [hother ki i3, hother i rfl], fun j hj hjr => ?_⟩
        rw [hother i rfl, hr'] at hjr
        simp only at hjr
        refine i4 j hj ?_
        by_cases e : r j = y
        · rw [if_pos e] at hjr
          exfalso
          rcases hor with ⟨h1, h2⟩ | ⟨h1, h2⟩
          · exact q1 (by rw [← hjr, h1])
          · exact q2 (by rw [← hjr, h1])
        · rw [if_neg e] at hjr; exact hjr
theorem LR.least {N : Nat} {r : Nat → Nat} {L : List Int} (h : LR N r L) {i : Nat} (hi : i < N) : L.getD i 0 = ghd (gcl r N (r i)) := by
  obtain ⟨k, h1, h2, h3, h4⟩ := h.2 i hi
  rw [h1]
  have hm := ghd_mem (gcl_ne (r := r) hi)
  obtain ⟨j, j1, j2, j3⟩ := (gcl_mem _ _ _ _).1 hm
  have hk : (k : Int) ∈ gcl r N (r i) := (gcl_mem _ _ _ _).2 ⟨k, h2, by omega, rfl⟩
  have hs := gcl_sorted r N (r i)
  have hle : ghd (gcl r N (r i)) ≤ (k : Int) := by
    generalize gcl r N (r i) = l at *
    cases l with
    | nil => simp at hk
    | cons x t =>
      rw [List.pairwise_cons] at hs
      rcases List.mem_cons.1 hk with e | e
      · rw [e]; exact Int.le_refl _
      · have := hs.1 _ e; simp only [ghd, List.headD_cons]; omega
  have := h4 j j1 (by omega)
  omega
theorem LR.count {N : Nat} {r : Nat → Nat} {L : List Int} (h : LR N r L) (hlt : ∀ i, i < N → r i < N) (hrr : ∀ i, i < N → r (r i) = r i) : ((List.range L.length).filter fun i => decide (L.getD i 0 = (i : Int))).length = rootsN N r := by
  rw [roots_cls hlt hrr, h.1]
  unfold cls
  rw [List.length_map]
  congr 1
  refine List.filter_congr fun i hi => ?_
  rw [h.least (List.mem_range.1 hi)]
theorem LR.rows {N : Nat} {r : Nat → Nat} {L : List Int} (h : LR N r L) : lrowsK L L.length = cls r N := by
  unfold lrowsK cls
  rw [h.1]
  have e : (List.range N).filter (fun j => decide (L.getD j 0 = (j : Int))) = (List.range N).filter fun i => decide (ghd (gcl r N (r i)) = (i : Int)) := List.filter_congr fun i hi => by rw [h.least (List.mem_range.1 hi)]
  rw [e]
  refine List.map_congr_left fun i hi => ?_
  rw [← e, List.mem_filter] at hi
  have hiN := List.mem_range.1 hi.1
  have hLi := of_decide_eq_true hi.2
  unfold lrowK gcl
  congr 1
  refine List.filter_congr fun k hk => ?_
  have hkN := List.mem_range.1 hk
  rw [decide_eq_decide]
  constructor
  · rintro ⟨_, h2⟩
    have := (h.same hkN hiN).1 (by rw [h2, hLi])
    omega
  · intro h2
    have h3 : r k = r i := by omega
    have h4 := (h.same hkN hiN).2 h3
    rw [hLi] at h4
    refine ⟨?_, h4⟩
    obtain ⟨j, j1, j2, j3, j4⟩ := h.2 k hkN
    have := j4 k hkN rfl
    omega
theorem isRows_rv (rows : List (List Int)) : IsRows (rv false rows.length 1 (rows.map vI)) rows := by
  rw [rv_false]
  refine .inr ⟨_, rfl, by simp, ?_, fun j x zs hx hz => ?_⟩
  · rw [closeds_iff]
    intro i x hx
    rw [List.getElem?_map, Option.map_eq_some_iff] at hx
    obtain ⟨zs, _, rfl⟩ := hx
    exact closeds_cI zs
  · rw [List.getElem?_map, hz] at hx
    cases hx
    exact isI_v zs
end Go.Ai.G
/- ref04.Of: what is reached. -/
namespace Go.Ai.G
open Go.Ai
set_option maxRecDepth 100000
set_option linter.unusedSimpArgs false
set_option linter.unusedVariables false
variable {A : AProg} {φ : Nat → Nat}
attribute [local simp ↓] getD_z getD_s hid_k hid_o hid_q hid_v PO_nil PO_none PO_grd PD_nil PD_none PD_grd PDO_N PDO_X PDO_call PDO_calli PDO_callv PStep_N PStep_X PStep_call PStep_calli PC_skip PC_lab
  PC_ret PC_exit PC_reg PC_draw PC_seq PC_block PC_loop PC_scope PC_cond thenC_norm thenC_ret thenC_exit blockC_norm blockC_ret blockC_exit loopC_norm loopC_ret loopC_exit endR_ret
  endR_norm
attribute [local simp] gz PDX_free PDX_eq PStep_callv resK_none resK_t resK_tt KNO_val KNO_new KNO_ite KNO_map KXO_some KXO_ite KVA_t KVA_f KG_skip KG_tt KG_ff KG_tf KG_ft KB_true KB_false KNOD_val
  KNOD_new KNOD_ite n_mv n_pick n_bin n_eqB n_eqN n_eqS n_un n_conv n_fadd n_faddV n_fld1 n_fldN n_idx n_idxA n_idxV n_idxAV n_ext n_lenS n_lenS0 n_lenV n_lenT n_lenA n_min n_max
  n_build n_mkfn n_slc n_slc0 n_slcV n_slcA n_load1 n_loadN n_load1V n_loadNV n_alloc n_box n_bsl n_mksl n_nilcP n_nilcV n_nilcI n_nilcF x_store x_clear0 x_clear b_add b_sub b_mul
  b_eql b_neq b_lss b_leq b_gtr b_geq b_and16 unV ntouch gather hide unhide evalOpd applyOuts int_bne int_beq ite_bool ite_int one_bool cells_bool one_int cells_int one_str cells_str
  one_nilp cells_nilp one_ptr cells_ptr one_nils cells_nils one_sl cells_sl one_nilf cells_nilf one_fn cells_fn one_nili cells_nili one_mp cells_mp one_nilm cells_nilm one_iface
  cells_iface one_vs cells_vs one_vp cells_vp cells_agg Nat.testBit setAt_1 setAt_2 closeds_nil closeds_cons closed_bool closed_int closed_str closed_nilp closed_nils closed_nilm
  closed_nilf closed_nili closed_agg closed_tup closed_vs closed_vp closed_iface closed_fn closeds_cI closeds_cE viewA_closed viewR_closed AV.scal AV.scal0 fillA repA part_bool
  part_int part_str part_nilp part_ptr part_nils part_sl part_nilm part_mp part_nilf part_fn part_nili part_iface part_agg part_vs part_vp viewA_sl1 vaSl_cells wrap_0 wrap_1 wrap_2
  wrap_m1 set_last get_last
theorem er73_0 (φ : Nat → Nat) : r73_0 φ = [
  ⟨0, .N .box, [.n 0], none, 0⟩,
  ⟨1, .N .mv, [.c (.nils)], none, 0⟩] := Eq.trans rfl rfl
theorem er73_1 (φ : Nat → Nat) : r73_1 φ = [
  ⟨0, .N (.bsl [.nils] 0 1 []), [], none, 0⟩,
  ⟨1, .N .mv, [.l 0], none, 0⟩] := Eq.trans rfl rfl
theorem er73_2 (φ : Nat → Nat) : r73_2 φ = [
  ⟨0, .N (.loadN 2), [.n 1], none, 0⟩,
  ⟨1, .calli true (φ 6), [.l 0], none, 0⟩,
  ⟨2, .N (.un .not), [.l 0], none, 0⟩] := Eq.trans rfl rfl
theorem er73_3 (φ : Nat → Nat) : r73_3 φ = [
  ⟨0, .N .mv, [.n 3], none, 0⟩,
  ⟨1, .N .mv, [.l 0], none, 0⟩] := Eq.trans rfl rfl
theorem er73_4 (φ : Nat → Nat) : r73_4 φ = [
  ⟨0, .N (.fadd 0), [.n 1], none, 0⟩,
  ⟨1, .N .load1, [.l 0], none, 0⟩,
  ⟨2, .N (.mksl [.bool false] 1 1), [.l 0, .l 0], none, 0⟩,
  ⟨3, .N .mv, [.l 0], none, 0⟩] := Eq.trans rfl rfl
theorem er73_5 (φ : Nat → Nat) : r73_5 φ = [
  ⟨0, .N .mv, [.c (.int .i64 0)], none, 0⟩] := Eq.trans rfl rfl
theorem er73_6 (φ : Nat → Nat) : r73_6 φ = [
  ⟨0, .N .mv, [.n 5], none, 0⟩,
  ⟨1, .N (.fadd 0), [.n 1], none, 0⟩,
  ⟨2, .N .load1, [.l 0], none, 0⟩,
  ⟨3, .N (.bin .lss), [.l 2, .l 0], none, 0⟩] := Eq.trans rfl rfl
theorem er73_7 (φ : Nat → Nat) : r73_7 φ = [
  ⟨0, .N .mv, [.n 4], none, 0⟩,
  ⟨1, .N .mv, [.n 5], none, 0⟩,
  ⟨2, .N (.idx 1), [.l 1, .l 0], none, 0⟩,
  ⟨3, .N .load1, [.l 0], none, 0⟩] := Eq.trans rfl rfl
theorem er73_8 (φ : Nat → Nat) : r73_8 φ = [
  ⟨0, .N .mv, [.n 5], none, 0⟩,
  ⟨1, .N (.bsl [.int .i64 0] 1 1 [(0, 1)]), [.l 0], none, 0⟩,
  ⟨2, .N .mv, [.l 0], none, 0⟩] := Eq.trans rfl rfl
theorem er73_9 (φ : Nat → Nat) : r73_9 φ = [
  ⟨0, .N .mv, [.n 4], none, 0⟩,
  ⟨1, .N .mv, [.n 5], none, 0⟩,
  ⟨2, .N (.idx 1), [.l 1, .l 0], none, 0⟩,
  ⟨3, .X (.store 1), [.l 0, .c (.bool true)], none, 0⟩] := Eq.trans rfl rfl
theorem er73_10 (φ : Nat → Nat) : r73_10 φ = [
  ⟨0, .N .mv, [.c (.int .i64 0)], none, 0⟩] := Eq.trans rfl rfl
theorem er73_11 (φ : Nat → Nat) : r73_11 φ = [
  ⟨0, .N .mv, [.n 7], none, 0⟩,
  ⟨1, .N .mv, [.n 6], none, 0⟩,
  ⟨2, .N .lenS, [.l 0], none, 0⟩,
  ⟨3, .N (.bin .lss), [.l 2, .l 0], none, 0⟩] := Eq.trans rfl rfl
theorem er73_12 (φ : Nat → Nat) : r73_12 φ = [
  ⟨0, .N (.loadN 2), [.n 1], none, 0⟩,
  ⟨1, .N .mv, [.n 6], none, 0⟩,
  ⟨2, .N .mv, [.n 7], none, 0⟩,
  ⟨3, .N (.idx 1), [.l 1, .l 0], none, 6⟩,
  ⟨4, .N .load1, [.l 0], none, 14⟩,
  ⟨5, .calli false (φ 10), [.l 4, .l 0], none, 31⟩,
  ⟨6, .N .mv, [.l 0], none, 63⟩] := Eq.trans rfl rfl
theorem er73_13 (φ : Nat → Nat) : r73_13 φ = [
  ⟨0, .N .mv, [.c (.int .i64 0)], none, 0⟩] := Eq.trans rfl rfl
theorem er73_14 (φ : Nat → Nat) : r73_14 φ = [
  ⟨0, .N .mv, [.n 9], none, 0⟩,
  ⟨1, .N .mv, [.n 8], none, 0⟩,
  ⟨2, .N .lenS, [.l 0], none, 0⟩,
  ⟨3, .N (.bin .lss), [.l 2, .l 0], none, 0⟩] := Eq.trans rfl rfl
theorem er73_15 (φ : Nat → Nat) : r73_15 φ = [
  ⟨0, .N .mv, [.n 4], none, 0⟩,
  ⟨1, .N .mv, [.n 8], none, 0⟩,
  ⟨2, .N .mv, [.n 9], none, 0⟩,
  ⟨3, .N (.idx 1), [.l 1, .l 0], none, 0⟩,
  ⟨4, .N .load1, [.l 0], none, 0⟩,
  ⟨5, .N (.idx 1), [.l 4, .l 0], none, 0⟩,
  ⟨6, .N .load1, [.l 0], none, 0⟩,
  ⟨7, .N (.un .not), [.l 0], none, 0⟩] := Eq.trans rfl rfl
theorem er73_16 (φ : Nat → Nat) : r73_16 φ = [
  ⟨0, .N .mv, [.n 4], none, 0⟩,
  ⟨1, .N .mv, [.n 8], none, 0⟩,
  ⟨2, .N .mv, [.n 9], none, 0⟩,
  ⟨3, .N (.idx 1), [.l 1, .l 0], none, 0⟩,
  ⟨4, .N .load1, [.l 0], none, 0⟩,
  ⟨5, .N (.idx 1), [.l 4, .l 0], none, 0⟩,
  ⟨6, .X (.store 1), [.l 0, .c (.bool true)], none, 0⟩] := Eq.trans rfl rfl
theorem er73_17 (φ : Nat → Nat) : r73_17 φ = [
  ⟨0, .N .mv, [.n 6], none, 0⟩,
  ⟨1, .N .mv, [.n 8], none, 0⟩,
  ⟨2, .N .mv, [.n 9], none, 0⟩,
  ⟨3, .N (.idx 1), [.l 1, .l 0], none, 0⟩,
  ⟨4, .N .load1, [.l 0], none, 0⟩,
  ⟨5, .N (.bsl [.int .i64 0] 1 1 [(0, 1)]), [.l 0], none, 0⟩,
  ⟨6, .X (.app 1 8), [.l 5, .l 0], none, 0⟩,
  ⟨7, .N .mv, [.l 0], none, 0⟩] := Eq.trans rfl rfl
theorem er73_18 (φ : Nat → Nat) : r73_18 φ = [
  ⟨0, .N .mv, [.n 9], none, 0⟩,
  ⟨1, .N (.bin .add), [.l 0, .c (.int .i64 1)], none, 0⟩,
  ⟨2, .N .mv, [.l 0], none, 0⟩] := Eq.trans rfl rfl
theorem er73_20 (φ : Nat → Nat) : r73_20 φ = [
  ⟨0, .N .mv, [.n 7], none, 0⟩,
  ⟨1, .N (.bin .add), [.l 0, .c (.int .i64 1)], none, 0⟩,
  ⟨2, .N .mv, [.l 0], none, 0⟩] := Eq.trans rfl rfl
theorem er73_22 (φ : Nat → Nat) : r73_22 φ = [
  ⟨0, .N .mv, [.n 3], none, 0⟩,
  ⟨1, .N .mv, [.n 6], none, 0⟩,
  ⟨2, .calli false (φ 30), [.l 0], none, 0⟩,
  ⟨3, .N (.bsl [.nils] 1 1 [(0, 1)]), [.l 0], none, 0⟩,
  ⟨4, .X (.app 1 24), [.l 3, .l 0], none, 0⟩,
  ⟨5, .N .mv, [.l 0], none, 0⟩] := Eq.trans rfl rfl
theorem er73_23 (φ : Nat → Nat) : r73_23 φ = [
  ⟨0, .N .mv, [.n 5], none, 0⟩,
  ⟨1, .N (.bin .add), [.l 0, .c (.int .i64 1)], none, 0⟩,
  ⟨2, .N .mv, [.l 0], none, 0⟩] := Eq.trans rfl rfl
theorem er73_25 (φ : Nat → Nat) : r73_25 φ = [
  ⟨0, .N .mv, [.n 3], none, 0⟩,
  ⟨1, .N .mv, [.l 0], none, 0⟩] := Eq.trans rfl rfl
/-- The least of a number's class. -/
def lst (r : Nat → Nat) (N x : Nat) : Nat := (ghd (gcl r N (r x))).toNat
theorem lst_spec (r : Nat → Nat) {N x : Nat} (hx : x < N) : ghd (gcl r N (r x)) = (lst r N x : Int) ∧ lst r N x ≤ x ∧ r (lst r N x) = r x ∧ lst r N x < N := by
  have hm := ghd_mem (gcl_ne (r := r) hx)
  obtain ⟨j, j1, j2, j3⟩ := (gcl_mem _ _ _ _).1 hm
  have hk : (x : Int) ∈ gcl r N (r x) := (gcl_mem _ _ _ _).2 ⟨x, hx, rfl, rfl⟩
  have hs := gcl_sorted r N (r x)
  have hle : ghd (gcl r N (r x)) ≤ (x : Int) := by
    generalize gcl r N (r x) = l at *
    cases l with
    | nil => simp at hk
    | cons y t =>
      rw [List.pairwise_cons] at hs
      rcases List.mem_cons.1 hk with e | e
      · rw [e]; exact Int.le_refl _
      · have := hs.1 _ e; simp only [ghd, List.headD_cons]; omega
  have hl : lst r N x = j := by unfold lst; rw [j3]; omega
  rw [hl]
  exact ⟨j3, by omega, by omega, j1⟩
theorem lst_same {r : Nat → Nat} {N x y : Nat} (h : r x = r y) : lst r N x = lst r N y := by unfold lst; rw [h]
def rowsK (r : Nat → Nat) (N i : Nat) : List (List Int) := ((List.range i).filter fun j => decide (ghd (gcl r N (r j)) = (j : Int))).map fun j => gcl r N (r j)
theorem rowsK_step {r : Nat → Nat} {N i : Nat} (hi : i < N) : rowsK r N (i + 1) = rowsK r N i ++ (if lst r N i = i then [gcl r N (r i)] else []) := by
  simp only [rowsK, List.range_succ, List.filter_append, List.map_append]
  congr 1
  have h := (lst_spec r hi).1
  by_cases e : lst r N i = i
  · rw [if_pos e, List.filter_cons, if_pos (by rw [h, e]; simp)]; rfl
  · rw [if_neg e, List.filter_cons, if_neg (by rw [h, decide_eq_true_eq]; omega)]; rfl
theorem rowsK_len (r : Nat → Nat) (N i : Nat) : (rowsK r N i).length ≤ i := by
  simp only [rowsK, List.length_map]
  exact Nat.le_trans (List.length_filter_le _ _) (by simp)
def SeenB (N : Nat) (f : Nat → Bool) (c : List AV) : Prop := c.length = N ∧ ∀ x, x < N → c[x]? = some (.bool (f x))
theorem SeenB.eqv {N : Nat} {f g : Nat → Bool} {c : List AV} (h : SeenB N f c) (e : ∀ x, x < N → f x = g x) : SeenB N g c := ⟨h.1, fun x hx => by rw [h.2 x hx, e x hx]⟩
theorem SeenB.add {N : Nat} {f : Nat → Bool} {c : List AV} (h : SeenB N f c) {z : Nat} (hz : z < N) : SeenB N (fun x => f x || decide (x = z)) (c.set z (.bool true)) := by
  refine ⟨by rw [List.length_set]; exact h.1, fun x hx => ?_⟩
  rw [List.getElem?_set]
  by_cases e : z = x
  · subst e; rw [if_pos rfl, if_pos (by rw [h.1]; exact hx)]; simp
  · rw [if_neg e, h.2 x hx]
    have : ¬ x = z := fun h => e h.symm
    simp [this]
/-- What a search from i has found. -/
structure Found (N : Nat) (r : Nat → Nat) (i : Nat) (E : List Ed) (D ls : List Int) : Prop where
  nd : ls.Nodup
  own : ∀ x ∈ ls, ∃ j : Nat, j < N ∧ r j = r i ∧ x = (j : Int)
  me : (i : Int) ∈ ls
  done : ∀ x ∈ D, ∀ w ∈ sortI (nbR x E), w ∈ ls
theorem Found.len {N : Nat} {r : Nat → Nat} {i : Nat} {E : List Ed} {D ls : List Int} (h : Found N r i E D ls) : ls.length ≤ N := by
  have hm : ((gcl r N (r i)).filter fun x => decide (x ∈ ls)).Nodup := ((gcl_sorted r N (r i)).imp (by intro a b h; omega)).filter _
  have := len_of_mem ls ((gcl r N (r i)).filter fun x => decide (x ∈ ls)) h.nd hm fun x => by
    rw [List.mem_filter, decide_eq_true_eq]
    refine ⟨fun hx => ⟨?_, hx⟩, fun hx => hx.2⟩
    obtain ⟨j, j1, j2, j3⟩ := h.own x hx
    exact (gcl_mem _ _ _ _).2 ⟨j, j1, by omega, j3⟩
  rw [this]
  exact Nat.le_trans (List.length_filter_le _ _) (gcl_len _ _ _)
theorem Found.add {N : Nat} {r : Nat → Nat} {i : Nat} {E : List Ed} {D ls : List Int} (h : Found N r i E D ls) {z : Nat} (hz : z < N) (hr : r z = r i) (hn : (z : Int) ∉ ls) : Found N r i E D (ls ++ [(z : Int)]) :=
  ⟨nodup_snoc.2 ⟨h.nd, hn⟩, fun x hx => by
    rcases List.mem_append.1 hx with hx | hx
    · exact h.own x hx
    · simp at hx; exact ⟨z, hz, hr, hx⟩, List.mem_append_left _ h.me, fun x hx w hw => List.mem_append_left _ (h.done x hx w hw)⟩
/-- What was found is the class, where nothing is left to look at. -/
theorem Found.all {N : Nat} {r : Nat → Nat} {i : Nat} {E : List Ed} {ls : List Int} (hR : rightE (N : Int) E = true) (hj : Joined N (npr E) r) (hi : i < N) (h : Found N r i E ls ls) : sortI ls = gcl r N (r i) := by
  refine strictI_unique (sort_strict h.nd) (gcl_sorted _ _ _) fun z => ?_
  rw [(sortI_perm ls).mem_iff, gcl_mem]
  constructor
  · intro hz
    obtain ⟨j, j1, j2, j3⟩ := h.own z hz
    exact ⟨j, j1, by omega, j3⟩
  · rintro ⟨j, j1, j2, rfl⟩
    have hc := hj.2 i j hi j1 (by omega)
    have := hc.fn (fun y => decide ((y : Int) ∈ ls)) fun a b hab => by
      obtain ⟨e, he, hh⟩ := List.mem_map.1 hab
      have hends := right_ends hR e he
      simp only [Prod.mk.injEq] at hh
      obtain ⟨rfl, rfl⟩ := hh
      have e1 : ((e.1.toNat : Nat) : Int) = e.1 := by omega
      have e2 : ((e.2.toNat : Nat) : Int) = e.2 := by omega
      simp only [e1, e2]
      rw [decide_eq_decide]
      exact ⟨fun hx => h.done _ hx _ ((nb_mem hR _ _).2 (.inl he)), fun hx => h.done _ hx _ ((nb_mem hR _ _).2 (.inr he))⟩
    have hm := h.me
    simp only [hm, decide_true] at this
    exact of_decide_eq_true this.symm
theorem nb_own {N : Nat} {r : Nat → Nat} {E : List Ed} (hR : rightE (N : Int) E = true) (hj : Joined N (npr E) r) {x : Nat} (hx : x < N) {w : Int} (hw : w ∈ sortI (nbR (x : Int) E)) : ∃ z : Nat, w = (z : Int) ∧ z < N ∧ r z = r x := by
  have he := right_ends hR
  rcases (nb_mem hR _ _).1 hw with h | h
  · have hee := he _ h
    simp only at hee
    have hc := hj.1 _ _ (.of (List.mem_map.2 ⟨_, h, rfl⟩))
    simp only [Int.toNat_natCast] at hc
    exact ⟨w.toNat, by omega, by omega, hc.symm⟩
  · have hee := he _ h
    simp only at hee
    have hc := hj.1 _ _ (.of (List.mem_map.2 ⟨_, h, rfl⟩))
    simp only [Int.toNat_natCast] at hc
    exact ⟨w.toNat, by omega, by omega, hc⟩
theorem closeds_vIs (xs : List (List Int)) : AV.closeds (xs.map vI) = true := by
  rw [closeds_iff]
  intro i x hx
  rw [List.getElem?_map, Option.map_eq_some_iff] at hx
  obtain ⟨zs, _, rfl⟩ := hx
  exact closeds_cI zs
theorem viewR_e (H : Heap) (b g o sz : Nat) : viewR H (.sl b g o 0 sz 0 true) = some (.vs 0 sz []) := (Own.viewR (own_empty 0 H sz b g o) rfl).trans (by simp [rv])
set_option maxHeartbeats 8000000 in
theorem w_ROf (h : Has A (φ 73) (f73 φ)) (hRc : RightC A (φ 6)) (hN : ∀ n a v es, IsE v es → PVal A (φ 10) [gV n v, .int .i64 a] (vI (if rightE n es then sortI (nbR a es) else [])))
    (hSo : ∀ v xs, IsI v xs → xs.length < 1000000000000 → PVal A (φ 30) [v] (vI (sortI xs))) (n : Int) (v : AV) (E : List Ed) (hv : IsE v E) (r : Nat → Nat) (hj0 : rightE n E = true → Joined n.toNat (npr E) r) :
    PVal A (φ 73) [gV n v] (if rightE n E = true then rv false (cls r n.toNat).length 1 ((cls r n.toNat).map vI) else rv false 0 1 []) := by
  have hone := hv.one
  have hcl := hv.closed
  have hlen := hv.len
  have cR := (hRc n v E hv).eq
  refine pval_has h rfl ?_
  simp only [l73_19, l73_21, l73_24, b73, f73]
  by_cases hR : rightE n E = true
  · have hn := right_len hR
    have hj := hj0 hR
    rw [if_pos hR]
    simp [hR] at cR
    obtain ⟨N, rfl⟩ : ∃ N : Nat, n = (N : Int) := ⟨n.toNat, by omega⟩
    have hNN : ((N : Int)).toNat = N := by omega
    rw [hNN] at hj ⊢
    have cN := fun a : Int => (hN N a v E hv).eq
    simp only [hR, if_true] at cN
    simp [-List.getD_eq_getElem?_getD, -Int.ofNat_toNat, -getElem?_pos, er73_0, er73_1, er73_2, er73_3, er73_4, er73_5, er73_6, er73_7, er73_8, er73_9, er73_10, er73_11, er73_12, er73_13, er73_14, er73_15, er73_16, er73_17, er73_18, er73_20, er73_22, er73_23, er73_25, hone, hcl, cR, get_at, get_at0]
    refine ⟨by omega, ?_⟩
    refine pc_loopI (fun m st => ∃ (i : Nat) (c : List AV) (out p6 p7 p8 p9 p11 p12 p13 p14 p15 : AV) (H : Heap), i + m = N ∧ H[0]? = some (.cells 0 false [.int .i64 N, v]) ∧ H[2]? = some (.cells 0 false c) ∧ 3 ≤ H.length ∧ Own false 3 H out 1 (rowsK r N i).length ((rowsK r N i).map vI) ∧ SeenB N (fun x => decide (lst r N x < i)) c ∧
      st = ([gV N v, .ptr 0 0 0, .nils, out, .sl 2 0 0 N 1 N true, .int .i64 i, p6, p7, p8, p9, .bool false, p11, p12, p13, p14, p15], H)) N
      ⟨0, _, _, _, _, _, _, _, _, _, _, _, _, by simp, rfl, rfl, by simp, own_empty _ _ _ _ _ _, ?_, rfl⟩ ?_
    · refine ⟨by rw [repA_len]; simp, fun x hx => ?_⟩
      rw [repA_repl, List.getElem?_replicate, if_pos hx]; simp
    rintro m st ⟨i, c, out, p6, p7, p8, p9, p11, p12, p13, p14, p15, H, hi, e0, e2, hHl, hout, hseen, rfl⟩
    by_cases hlt : i < N
    · have hlt' : (i : Int) < N := by omega
      have hci : c[i]? = some (.bool (decide (lst r N i < i))) := hseen.2 i hlt
      have hiw := wrap1 hlt (by omega)
      obtain ⟨g1, g2, g3, g4⟩ := lst_spec r hlt
      have hrs := rowsK_step (r := r) hlt
      have hclen := hseen.1
      have hnoneq : ∀ x, x < N → lst r N x = i → lst r N i = i := fun x hx e => by
        have := (lst_spec r hx).2.2.1
        rw [e] at this
        rw [lst_same this, e]
      by_cases hsn : lst r N i < i
      · rw [if_neg (by omega), List.append_nil] at hrs
        rw [decide_eq_true hsn] at hci
        simp [-List.getD_eq_getElem?_getD, -Int.ofNat_toNat, -getElem?_pos, er73_0, er73_1, er73_2, er73_3, er73_4, er73_5, er73_6, er73_7, er73_8, er73_9, er73_10, er73_11, er73_12, er73_13, er73_14, er73_15, er73_16, er73_17, er73_18, er73_20, er73_22, er73_23, er73_25, e0, hlt', hlt, e2, hci, hiw]
        exact next_mk (m - 1) (by omega) ⟨i + 1, _, _, _, _, _, _, _, _, _, _, _, _, by omega, e0, e2, hHl, by rw [hrs]; exact hout, hseen.eqv fun x hx => by
          rw [decide_eq_decide]
          exact ⟨fun h => by omega, fun h => by
            by_cases e : lst r N x = i
            · have := hnoneq x hx e; omega
            · omega⟩, rfl⟩
      · have hli : lst r N i = i := by omega
        rw [if_pos hli] at hrs
        rw [decide_eq_false hsn] at hci
        have s1 : ∀ w, setAt c i [w] = c.set i w := fun w => setAt_one w (by omega)
        have hcl1 : i + 1 ≤ c.length := by omega
        have hcl2 : i + 1 ≤ N := by omega
        have e2' : (H ++ [Ob.cells 0 false [.int .i64 i]])[2]? = some (.cells 0 false c) := by rw [List.getElem?_append_left (by omega)]; exact e2
        simp [-List.getD_eq_getElem?_getD, -Int.ofNat_toNat, -getElem?_pos, er73_0, er73_1, er73_2, er73_3, er73_4, er73_5, er73_6, er73_7, er73_8, er73_9, er73_10, er73_11, er73_12, er73_13, er73_14, er73_15, er73_16, er73_17, er73_18, er73_20, er73_22, er73_23, er73_25, e0, hlt', hlt, e2, e2', hci, s1, hcl1, hcl2, hclen]
        refine pc_loopI (fun m2 st => ∃ (i2 : Nat) (ls : List Int) (c : List AV) (lv p8 p9 p13 p14 p15 : AV) (H2 : Heap), i2 + m2 = N ∧ i2 ≤ ls.length ∧ Found N r i E (ls.take i2) ls ∧ SeenB N (fun x => decide (lst r N x < i) || decide ((x : Int) ∈ ls)) c ∧ H2[0]? = some (.cells 0 false [.int .i64 N, v]) ∧ H2[2]? = some (.cells 0 false c) ∧
            OwnI false H.length H2 lv ls ∧ (∀ j, 3 ≤ j → j < H.length → H2[j]? = H[j]?) ∧ H.length ≤ H2.length ∧
            st = ([gV N v, .ptr 0 0 0, .nils, out, .sl 2 0 0 N 1 N true, .int .i64 i, lv, .int .i64 i2, p8, p9, .bool false, .bool true, .bool false, p13, p14, p15], H2)) N
          ⟨0, [(i : Int)], _, _, _, _, _, _, _, _, by simp, by simp, ⟨by simp, fun x hx => by simp at hx; exact ⟨i, hlt, rfl, hx⟩, by simp, fun x hx => by simp at hx⟩, (hseen.add hlt).eqv (fun x hx => by
            congr 1; rw [decide_eq_decide]; simp; omega), by rw [List.getElem?_set_ne (by omega), List.getElem?_append_left (by omega)]; exact e0, by rw [List.getElem?_set_self (by simp; omega)], own_new (Nat.le_refl _) rfl (by rw [List.getElem?_set_ne (by omega), get_at0]; rfl) (fun h => by simp at h), fun j hj hj' => by rw [List.getElem?_set_ne (by omega), List.getElem?_append_left hj'], by simp, rfl⟩ ?_
        clear hseen hci e2 e2' s1 hcl1 hcl2 hclen c
        rintro m2 st2 ⟨i2, ls, c, lv, p8, p9, p13, p14, p15, H2, hi2, hi2l, hF, hseen, e0', e2, hol, hk2, hl2, rfl⟩
        have hlsN := hF.len
        have hlvl := Own.len hol
        by_cases hl : i2 < ls.length
        · have hl' : (i2 : Int) < ls.length := by omega
          have hi2w := wrap1 hl (by omega)
          obtain ⟨b1, q1, oa, ca, bl1, _⟩ := Own.at hol hl
          have za := cI_get hl
          have hxm : ls[i2] ∈ ls := List.getElem_mem hl
          obtain ⟨x0, x1, x2, x3⟩ := hF.own _ hxm
          have hts : ls.take (i2 + 1) = ls.take i2 ++ [ls[i2]] := List.take_succ_eq_append_getElem hl
          have cNx := cN ls[i2]
          have hnb := fun w hw => nb_own hR hj x1 (w := w) (by rw [← x3]; exact hw)
          generalize hxe : ls[i2] = x at *
          generalize hnbe : sortI (nbR x E) = nb at *
          have hNb := isI_v nb
          have hNl := hNb.len
          have hNc := hNb.closed
          simp [-List.getD_eq_getElem?_getD, -Int.ofNat_toNat, -getElem?_pos, er73_0, er73_1, er73_2, er73_3, er73_4, er73_5, er73_6, er73_7, er73_8, er73_9, er73_10, er73_11, er73_12, er73_13, er73_14, er73_15, er73_16, er73_17, er73_18, er73_20, er73_22, er73_23, er73_25, hlvl, hl', hl, e0', oa, ca, za, hcl, cNx]
          refine pc_loopI (fun m3 st => ∃ (k : Nat) (t : List Int) (c : List AV) (lv p14 p15 : AV) (H3 : Heap), k + m3 = nb.length ∧ (∀ w ∈ nb.take k, w ∈ ls ++ t) ∧ Found N r i E (ls.take i2) (ls ++ t) ∧ SeenB N (fun x => decide (lst r N x < i) || decide ((x : Int) ∈ ls ++ t)) c ∧ H3[0]? = some (.cells 0 false [.int .i64 N, v]) ∧ H3[2]? = some (.cells 0 false c) ∧
              OwnI false H.length H3 lv (ls ++ t) ∧ (∀ j, 3 ≤ j → j < H.length → H3[j]? = H[j]?) ∧ H.length ≤ H3.length ∧
              st = ([gV N v, .ptr 0 0 0, .nils, out, .sl 2 0 0 N 1 N true, .int .i64 i, lv, .int .i64 i2, vI nb, .int .i64 k, .bool false, .bool true, .bool false, .bool true, p14, p15], H3)) nb.length
            ⟨0, [], _, _, _, _, _, by simp, by simp, by rw [List.append_nil]; exact hF, by rw [List.append_nil]; exact hseen, e0', e2, by rw [List.append_nil]; exact hol, hk2, hl2, rfl⟩ ?_
          clear hF hseen e0' e2 hol hk2 hl2 hlvl oa ca c
          rintro m3 st3 ⟨k, t, c, lv, p14, p15, H3, hk, hdone, hF, hseen, e0', e2, hol, hk2, hl2, rfl⟩
          have hlsN := hF.len
          by_cases hkl : k < nb.length
          · have hkl' : (k : Int) < nb.length := by omega
            obtain ⟨u1, u2⟩ := hNb.at hkl
            have hkw := wrap1 hkl (by
              have := nbR_len x E
              have : nb.length = (nbR x E).length := by rw [← hnbe, sortI_len]
              omega)
            have hwm : nb[k] ∈ nb := List.getElem_mem hkl
            have htk : nb.take (k + 1) = nb.take k ++ [nb[k]] := List.take_succ_eq_append_getElem hkl
            obtain ⟨z, hz1, hz2, hz3⟩ := hnb _ hwm
            rw [hz1] at u2 htk
            have hrz : r z = r i := by rw [hz3, x2]
            have hlz : lst r N z = i := by rw [lst_same hrz, hli]
            have hz0 : ¬ (z : Int) < 0 := by omega
            have hzN : (z : Int) < N := by omega
            have hcz : c[z]? = some (.bool (decide ((z : Int) ∈ ls ++ t))) := by
              have := hseen.2 z hz2
              simp only [hlz, Nat.lt_irrefl, decide_false, Bool.false_or] at this
              exact this
            have hclen := hseen.1
            by_cases hm : (z : Int) ∈ ls ++ t
            · rw [decide_eq_true hm] at hcz
              simp [-List.getD_eq_getElem?_getD, -Int.ofNat_toNat, -getElem?_pos, er73_0, er73_1, er73_2, er73_3, er73_4, er73_5, er73_6, er73_7, er73_8, er73_9, er73_10, er73_11, er73_12, er73_13, er73_14, er73_15, er73_16, er73_17, er73_18, er73_20, er73_22, er73_23, er73_25, hNl, hkl', hkl, u1, u2, e2, hz0, hzN, hz2, hcz, hkw]
              exact next_mk (m3 - 1) (by omega) ⟨k + 1, t, _, _, _, _, _, by omega, fun w hw => by
                rw [htk] at hw
                rcases List.mem_append.1 hw with hw | hw
                · exact hdone w hw
                · simp at hw; rw [hw]; exact hm, hF, hseen, e0', e2, hol, hk2, hl2, rfl⟩
            · rw [decide_eq_false hm] at hcz
              have s1 : ∀ w, setAt c z [w] = c.set z w := fun w => setAt_one w (by omega)
              have hcl1 : z + 1 ≤ c.length := by omega
              have hcl2 : z + 1 ≤ N := by omega
              have hF2 := hF.add hz2 hrz hm
              have hs2 := (hseen.add hz2).eqv (g := fun x => decide (lst r N x < i) || decide ((x : Int) ∈ ls ++ (t ++ [(z : Int)]))) fun x hx => by
                rw [Bool.or_assoc]
                congr 1
                rw [← List.append_assoc, ← Bool.decide_or, decide_eq_decide]
                simp only [List.mem_append, List.mem_singleton]
                constructor
                · rintro (h | h)
                  · exact .inl h
                  · right; omega
                · rintro (h | h)
                  · exact .inl h
                  · right; omega
              have hol2 : OwnI false H.length (H3.set 2 (.cells 0 false (c.set z (.bool true)))) lv (ls ++ t) := Own.keep hol fun b hb hbv => List.getElem?_set_ne (by have := (Own.blk hol hbv).1; omega)
              obtain ⟨o1, H4, y1, y2, y3, y4, y5, y6⟩ := OwnI.app1 hol2 (z : Int) (by rw [List.length_set]; exact hl2) (by omega)
              rw [List.length_set] at y1 y4 y5
              have hblv : ∀ b, b < 3 → blkOf lv ≠ some b := fun b hb hbv => by have := (Own.blk hol hbv).1; omega
              have f0 : H4[0]? = some (.cells 0 false [.int .i64 N, v]) := by rw [y5 0 (by omega) (hblv 0 (by omega)), List.getElem?_set_ne (by omega)]; exact e0'
              have f2 : H4[2]? = some (.cells 0 false (c.set z (.bool true))) := by rw [y5 2 (by omega) (hblv 2 (by omega)), List.getElem?_set_self (by omega)]
              simp [-List.getD_eq_getElem?_getD, -Int.ofNat_toNat, -getElem?_pos, er73_0, er73_1, er73_2, er73_3, er73_4, er73_5, er73_6, er73_7, er73_8, er73_9, er73_10, er73_11, er73_12, er73_13, er73_14, er73_15, er73_16, er73_17, er73_18, er73_20, er73_22, er73_23, er73_25, hNl, hkl', hkl, u1, u2, e2, hz0, hzN, hz2, hcz, s1, hcl1, hcl2, hclen, y1, hkw]
              exact next_mk (m3 - 1) (by omega) ⟨k + 1, t ++ [(z : Int)], _, _, _, _, _, by omega, fun w hw => by
                rw [htk] at hw
                rw [← List.append_assoc]
                rcases List.mem_append.1 hw with hw | hw
                · exact List.mem_append_left _ (hdone w hw)
                · simp at hw; rw [hw]; simp, by rw [← List.append_assoc]; exact hF2, hs2, f0, f2, by rw [← List.append_assoc]; exact y2, fun j hj hj' => by rw [y3 j hj', List.getElem?_set_ne (by omega)]; exact hk2 j hj hj', by omega, rfl⟩
          · have hkl' : ¬ (k : Int) < nb.length := by omega
            rw [List.take_of_length_le (by omega)] at hdone
            have htk2 : (ls ++ t).take (i2 + 1) = ls.take i2 ++ [x] := by rw [List.take_append_of_le_length (by omega), hts]
            simp [-List.getD_eq_getElem?_getD, -Int.ofNat_toNat, -getElem?_pos, er73_0, er73_1, er73_2, er73_3, er73_4, er73_5, er73_6, er73_7, er73_8, er73_9, er73_10, er73_11, er73_12, er73_13, er73_14, er73_15, er73_16, er73_17, er73_18, er73_20, er73_22, er73_23, er73_25, hNl, hkl', hkl, hi2w]
            exact next_mk (m2 - 1) (by omega) ⟨i2 + 1, ls ++ t, _, _, _, _, _, _, _, _, by omega, by simp; omega, ⟨hF.nd, hF.own, hF.me, fun y hy w hw => by
              rw [htk2] at hy
              rcases List.mem_append.1 hy with hy | hy
              · exact hF.done y hy w hw
              · simp at hy; subst hy; rw [hnbe] at hw; exact hdone w hw⟩, hseen, e0', e2, hol, hk2, hl2, rfl⟩
        · have hl' : ¬ (i2 : Int) < ls.length := by omega
          rw [List.take_of_length_le (by omega)] at hF
          have hall := Found.all hR hj hlt hF
          obtain ⟨H3, w1, w2, w3⟩ := OwnI.viewA1 hol
          have hIs : IsI (rv false ls.length 1 (cI ls)) ls := is_rv (by simp [cI]) (closeds_cI ls)
          have cS := (hSo _ ls hIs (by omega)).eq
          rw [hall] at cS
          have hblv : ∀ b, b < H.length → blkOf lv ≠ some b := fun b hb hbv => by have := (Own.blk hol hbv).1; omega
          have f0 : H3[0]? = some (.cells 0 false [.int .i64 N, v]) := by rw [w3 0 (hblv 0 (by omega))]; exact e0'
          have f2 : H3[2]? = some (.cells 0 false c) := by rw [w3 2 (hblv 2 (by omega))]; exact e2
          have hout3 : Own false 3 H3 out 1 (rowsK r N i).length ((rowsK r N i).map vI) := Own.keep hout fun b hb hbv => by
            rw [w3 b (hblv b hb)]; exact hk2 b (Own.blk hout hbv).1 hb
          have hrl := rowsK_len r N i
          obtain ⟨o1, H4, y1, y2, y3, y4, y5⟩ := Own.app1 (bytes := 24) (x := [vI (gcl r N (r i))]) hout3 rfl rfl (by omega) (by omega)
          have hbo : ∀ b, b < 3 → blkOf out ≠ some b := fun b hb hbv => by have := (Own.blk hout hbv).1; omega
          have hone' : lv.one = true := Own.one hol
          have hgm : ∀ x, x < N → ((x : Int) ∈ ls ↔ r x = r i) := fun x hx => by
            rw [← (sortI_perm ls).mem_iff, hall, gcl_mem]
            exact ⟨fun ⟨j, j1, j2, j3⟩ => by have : x = j := by omega
                                             subst this; omega, fun h => ⟨x, hx, by omega, rfl⟩⟩
          simp [-List.getD_eq_getElem?_getD, -Int.ofNat_toNat, -getElem?_pos, er73_0, er73_1, er73_2, er73_3, er73_4, er73_5, er73_6, er73_7, er73_8, er73_9, er73_10, er73_11, er73_12, er73_13, er73_14, er73_15, er73_16, er73_17, er73_18, er73_20, er73_22, er73_23, er73_25, hlvl, hl', hl, w1, cS, y1, hiw]
          exact next_mk (m - 1) (by omega) ⟨i + 1, _, _, _, _, _, _, _, _, _, _, _, _, by omega, by rw [y3 0 (by omega) (hbo 0 (by omega))]; exact f0, by rw [y3 2 (by omega) (hbo 2 (by omega))]; exact f2, by omega, by rw [hrs]; simpa using y2, hseen.eqv fun x hx => by
            rw [← Bool.decide_or, decide_eq_decide, hgm x hx]
            constructor
            · rintro (h | h)
              · omega
              · rw [lst_same h]; omega
            · intro h
              by_cases e : lst r N x = i
              · right
                have := (lst_spec r hx).2.2.1
                rw [e] at this; exact this.symm
              · left; omega, rfl⟩
    · have hie : i = N := by omega
      subst hie
      have hvw := Own.viewR hout (closeds_vIs _)
      simp [-List.getD_eq_getElem?_getD, -Int.ofNat_toNat, -getElem?_pos, er73_0, er73_1, er73_2, er73_3, er73_4, er73_5, er73_6, er73_7, er73_8, er73_9, er73_10, er73_11, er73_12, er73_13, er73_14, er73_15, er73_16, er73_17, er73_18, er73_20, er73_22, er73_23, er73_25, e0, hout.one, hout.cells, resK, resVs, resV, pack]
      exact hvw
  · rw [if_neg hR]
    simp [hR] at cR
    simp [-List.getD_eq_getElem?_getD, -Int.ofNat_toNat, -getElem?_pos, er73_0, er73_1, er73_2, er73_3, er73_4, er73_5, er73_6, er73_7, er73_8, er73_9, er73_10, er73_11, er73_12, er73_13, er73_14, er73_15, er73_16, er73_17, er73_18, er73_20, er73_22, er73_23, er73_25, hone, hcl, cR, get_at, get_at0, resK, resVs, resV, pack, rv, viewR_e]
end Go.Ai.G
/- PartComponents. -/
namespace Go.Ai.G
open Go.Ai
set_option maxRecDepth 100000
set_option linter.unusedSimpArgs false
set_option linter.unusedVariables false
variable {A : AProg} {φ : Nat → Nat}
attribute [local simp ↓] getD_z getD_s hid_k hid_o hid_q hid_v PO_nil PO_none PO_grd PD_nil PD_none PD_grd PDO_N PDO_X PDO_call PDO_calli PDO_callv PStep_N PStep_X PStep_call PStep_calli PC_skip PC_lab
  PC_ret PC_exit PC_reg PC_draw PC_seq PC_block PC_loop PC_scope PC_cond thenC_norm thenC_ret thenC_exit blockC_norm blockC_ret blockC_exit loopC_norm loopC_ret loopC_exit endR_ret
  endR_norm
attribute [local simp] gz PDX_free PDX_eq PStep_callv resK_none resK_t resK_tt KNO_val KNO_new KNO_ite KNO_map KXO_some KXO_ite KVA_t KVA_f KG_skip KG_tt KG_ff KG_tf KG_ft KB_true KB_false KNOD_val
  KNOD_new KNOD_ite n_mv n_pick n_bin n_eqB n_eqN n_eqS n_un n_conv n_fadd n_faddV n_fld1 n_fldN n_idx n_idxA n_idxV n_idxAV n_ext n_lenS n_lenS0 n_lenV n_lenT n_lenA n_min n_max
  n_build n_mkfn n_slc n_slc0 n_slcV n_slcA n_load1 n_loadN n_load1V n_loadNV n_alloc n_box n_bsl n_mksl n_nilcP n_nilcV n_nilcI n_nilcF x_store x_clear0 x_clear b_add b_sub b_mul
  b_eql b_neq b_lss b_leq b_gtr b_geq b_and16 unV ntouch gather hide unhide evalOpd applyOuts int_bne int_beq ite_bool ite_int one_bool cells_bool one_int cells_int one_str cells_str
  one_nilp cells_nilp one_ptr cells_ptr one_nils cells_nils one_sl cells_sl one_nilf cells_nilf one_fn cells_fn one_nili cells_nili one_mp cells_mp one_nilm cells_nilm one_iface
  cells_iface one_vs cells_vs one_vp cells_vp cells_agg Nat.testBit setAt_1 setAt_2 closeds_nil closeds_cons closed_bool closed_int closed_str closed_nilp closed_nils closed_nilm
  closed_nilf closed_nili closed_agg closed_tup closed_vs closed_vp closed_iface closed_fn closeds_cI closeds_cE viewA_closed viewR_closed AV.scal AV.scal0 fillA repA part_bool
  part_int part_str part_nilp part_ptr part_nils part_sl part_nilm part_mp part_nilf part_fn part_nili part_iface part_agg part_vs part_vp viewA_sl1 vaSl_cells wrap_0 wrap_1 wrap_2
  wrap_m1 set_last get_last
theorem er74_0 (φ : Nat → Nat) : r74_0 φ = [
  ⟨0, .N .box, [.n 0], none, 0⟩,
  ⟨1, .N .mv, [.c (.bool false)], none, 0⟩] := Eq.trans rfl rfl
theorem er74_1 (φ : Nat → Nat) : r74_1 φ = [
  ⟨0, .calli true (φ 59), [], none, 0⟩,
  ⟨1, .N .mv, [.l 0], none, 0⟩] := Eq.trans rfl rfl
theorem er74_2 (φ : Nat → Nat) : r74_2 φ = [
  ⟨0, .N (.bsl [.int .i64 0, .int .i64 0] 0 2 []), [], none, 0⟩,
  ⟨1, .N (.fadd 1), [.n 1], none, 0⟩,
  ⟨2, .N .load1, [.l 0], none, 0⟩,
  ⟨3, .N (.fadd 1), [.n 1], none, 0⟩,
  ⟨4, .N .load1, [.l 0], none, 0⟩,
  ⟨5, .N .lenS, [.l 0], none, 0⟩,
  ⟨6, .N .min, [.l 0, .c (.int .i64 500)], none, 0⟩,
  ⟨7, .N (.slc 2 false true false), [.l 4, .l 0], none, 0⟩,
  ⟨8, .X (.app 2 16), [.l 7, .l 0], none, 0⟩,
  ⟨9, .N (.fadd 1), [.n 1], none, 0⟩,
  ⟨10, .X (.store 1), [.l 0, .l 1], none, 0⟩] := Eq.trans rfl rfl
theorem er74_3 (φ : Nat → Nat) : r74_3 φ = [
  ⟨0, .N .mv, [.n 3], none, 0⟩,
  ⟨1, .N .mv, [.l 0], none, 1⟩,
  ⟨2, .N (.loadN 2), [.n 1], some (.l 0, true), 3⟩,
  ⟨4, .N (.loadN 2), [.n 1], some (.l 1, true), 3⟩,
  ⟨3, .calli false (φ 72), [.l 1], some (.l 2, true), 7⟩,
  ⟨5, .calli false (φ 73), [.l 1], some (.l 3, true), 31⟩,
  ⟨6, .calli true (φ 70), [.l 1, .l 0], some (.l 4, true), 63⟩,
  ⟨7, .N .pick, [.l 5, .l 0, .c (.bool false)], none, 127⟩,
  ⟨8, .N .mv, [.l 0], none, 255⟩] := Eq.trans rfl rfl
structure SC4 (A : AProg) (φ : Nat → Nat) : Prop where
  b : Go.Ai.G.SB A φ
  rof : Has A (φ 73) (f73 φ)
  rright : RightC A (φ 6)
  rnear : ∀ n a v es, IsE v es → PVal A (φ 10) [gV n v, .int .i64 a] (vI (if rightE n es then sortI (nbR a es) else []))
  sorted : ∀ v xs, IsI v xs → xs.length < 1000000000000 → PVal A (φ 30) [v] (vI (sortI xs))
theorem isRows_e : IsRows (rv false 0 1 []) [] := .inr ⟨[], by simp [rv], rfl, rfl, fun j x zs h => by simp at h⟩
set_option maxHeartbeats 8000000 in
theorem w_PartComponents (h : Has A (φ 74) (f74 φ)) (hS : PVal A (φ 59) [] (.bool true)) (g : SC4 A φ) (n : Int) (v : AV) (l : List Ed) (hv : IsE v l) :
    PVal A (φ 74) [gV n v] (.bool true) := by
  have hsh := hS.eq
  have hlen := hv.len
  have hone := hv.one
  have hcl := hv.closed
  obtain ⟨v', o, H', s1, x1, x2, e0, ho⟩ := cut_own n v l hv 500 (by omega)
  have hmin := minV_i (l.length : Int) 500
  have hmm : min (l.length : Int) 500 = ((min l.length 500 : Nat) : Int) := by omega
  rw [hmm] at hmin
  have hL : (l.take 500).length ≤ 500 := by simp; omega
  generalize l.take 500 = es at *
  have hset : (H'.set 0 (.cells 0 false [.int .i64 n, o]))[0]? = some (.cells 0 false [.int .i64 n, o]) := List.getElem?_set_self (lt_of_get e0)
  have hw : Vw false (H'.set 0 (.cells 0 false [.int .i64 n, o])) o 2 es.length (cellsE es) := Own.vw (Own.keep x2 fun b hb hbe => List.getElem?_set_ne (by have := (Own.blk x2 hbe).1; omega))
  have hset0 : setAt [.int .i64 n, v] 1 [o] = [.int .i64 n, o] := rfl
  have hoc := hw.cells
  have hoo := hw.one
  have hc := closeds_cE es
  have hIs : IsE (rv false es.length 2 (cellsE es)) es := is_rv (cellsE_length es) hc
  have hF0 := frz_keep ho hset
  have va1 := hw.g1 hc n
  obtain ⟨f1, f2, _⟩ := hw.frz
  have vb1 := f1.g1 hc n
  rw [f2] at vb1
  generalize hH2 : H'.set 0 (.cells 0 false [.int .i64 n, o]) = H2 at *
  generalize frzOf H2 o = F at *
  refine pval_has h rfl ?_
  simp only [b74, f74]
  by_cases hR : rightE n es = true
  · have hn := right_len hR
    obtain ⟨N, rfl⟩ : ∃ N : Nat, n = (N : Int) := ⟨n.toNat, by omega⟩
    have hNN : ((N : Int)).toNat = N := by omega
    obtain ⟨r, hj, hlr⟩ := joined_ex N (npr es) (npr_lt hR)
    have c1 := (w_Of4 g.b.of g.b.p g.b.right N _ es hIs r (fun _ => by rw [hNN]; exact hj)).eq
    have c2 := (w_ROf g.rof g.rright g.rnear g.sorted N _ es hIs r (fun _ => by rw [hNN]; exact hj)).eq
    rw [if_pos hR, hNN] at c1 c2
    obtain ⟨y1, y2⟩ := cls_len (N := N) (r := r)
    generalize cls r N = rows at *
    have cR := (g.b.p.rows _ _ _ _ (isRows_v rows) (isRows_rv rows) (by omega) (fun l hl => by have := y2 l hl; omega)).eq
    rw [decide_eq_true rfl] at cR
    have k1 := (isRows_v rows).closed
    have k2 := (isRows_rv rows).closed
    have k3 := (isRows_v rows).one
    have k4 := (isRows_rv rows).one
    simp [-List.getD_eq_getElem?_getD, -Int.ofNat_toNat, -getElem?_pos, er74_0, er74_1, er74_2, er74_3, hsh, hlen, hone, hmin, foldV, s1, x1, e0, hset, hset0, hoc, hoo, hF0, va1, vb1, hH2, c1, c2, k1, k2, k3, k4, cR, resK, resVs, resV, pack]
  · have c1 := (w_Of4 g.b.of g.b.p g.b.right n _ es hIs id (fun h => absurd h hR)).eq
    have c2 := (w_ROf g.rof g.rright g.rnear g.sorted n _ es hIs id (fun h => absurd h hR)).eq
    rw [if_neg hR] at c1 c2
    have cR := (g.b.p.rows .nils _ [] [] (.inl ⟨rfl, rfl⟩) isRows_e (by simp) (by simp)).eq
    rw [decide_eq_true rfl] at cR
    have k2 := isRows_e.closed
    have k4 := isRows_e.one
    simp [-List.getD_eq_getElem?_getD, -Int.ofNat_toNat, -getElem?_pos, er74_0, er74_1, er74_2, er74_3, hsh, hlen, hone, hmin, foldV, s1, x1, e0, hset, hset0, hoc, hoo, hF0, va1, vb1, hH2, c1, c2, k2, k4, cR, resK, resVs, resV, pack]
end Go.Ai.G
