/- A part of what the law leans on: the abstract machine, the contracts, the rows. -/
import Derived.Test.YtmekjhnlmoidpaaK11
import Derived.Test.YtmekjhnlmoidpaaK16
import Derived.Test.YtmekjhnlmoidpaaK5
import Derived.Test.YtmekjhnlmoidpaaK6
import Derived.Test.YtmekjhnlmoidpaaK7
/- part: New, Classes; rows of rows told apart. -/
namespace Go.Ai.G
open Go.Ai
set_option maxRecDepth 100000
set_option linter.unusedSimpArgs false
set_option linter.unusedVariables false
variable {A : AProg} {φ : Nat → Nat}
attribute [local simp ↓] getD_z getD_s hid_k hid_o hid_q hid_v PO_nil PO_none PO_grd PD_nil PD_none PD_grd PDO_N PDO_X PDO_call PDO_calli PDO_callv PStep_N PStep_X PStep_call PStep_calli PC_skip PC_lab
  PC_ret PC_exit PC_reg PC_draw PC_seq PC_block PC_loop PC_scope PC_cond thenC_norm thenC_ret thenC_exit blockC_norm blockC_ret blockC_exit loopC_norm loopC_ret loopC_exit endR_ret
  endR_norm
attribute [local simp] gz PDX_free PDX_eq PStep_callv resK_none resK_t resK_tt KNO_val KNO_new KNO_ite KNO_map KXO_some KXO_ite KVA_t KVA_f KG_skip KG_tt KG_ff KG_tf KG_ft KB_true KB_false KNOD_val
  KNOD_new KNOD_ite n_mv n_pick n_bin n_eqB n_eqN n_eqS n_un n_conv n_fadd n_faddV n_fld1 n_fldN n_idx n_idxA n_idxV n_idxAV n_ext n_lenS n_lenS0 n_lenV n_lenT n_lenA n_min n_max
  n_build n_mkfn n_slc n_slc0 n_slcV n_slcA n_load1 n_loadN n_load1V n_loadNV n_alloc n_box n_bsl n_mksl n_nilcP n_nilcV n_nilcI n_nilcF x_store x_clear0 x_clear b_add b_sub b_mul
  b_eql b_neq b_lss b_leq b_gtr b_geq b_and16 unV ntouch gather hide unhide evalOpd applyOuts int_bne int_beq ite_bool ite_int one_bool cells_bool one_int cells_int one_str cells_str
  one_nilp cells_nilp one_ptr cells_ptr one_nils cells_nils one_sl cells_sl one_nilf cells_nilf one_fn cells_fn one_nili cells_nili one_mp cells_mp one_nilm cells_nilm one_iface
  cells_iface one_vs cells_vs one_vp cells_vp cells_agg Nat.testBit setAt_1 setAt_2 closeds_nil closeds_cons closed_bool closed_int closed_str closed_nilp closed_nils closed_nilm
  closed_nilf closed_nili closed_agg closed_tup closed_vs closed_vp closed_iface closed_fn closeds_cI closeds_cE viewA_closed viewR_closed AV.scal AV.scal0 fillA repA part_bool
  part_int part_str part_nilp part_ptr part_nils part_sl part_nilm part_mp part_nilf part_fn part_nili part_iface part_agg part_vs part_vp viewA_sl1 vaSl_cells wrap_0 wrap_1 wrap_2
  wrap_m1 set_last get_last
theorem er70_0 (φ : Nat → Nat) : r70_0 φ = [
  ⟨0, .N .mv, [.c (.bool false)], none, 0⟩] := Eq.trans rfl rfl
theorem er70_1 (φ : Nat → Nat) : r70_1 φ = [
  ⟨0, .N .mv, [.n 0], none, 0⟩,
  ⟨1, .N .lenS, [.l 0], none, 0⟩,
  ⟨2, .N .mv, [.n 1], none, 0⟩,
  ⟨3, .N .lenS, [.l 0], none, 0⟩,
  ⟨4, .N (.bin .neq), [.l 2, .l 0], none, 0⟩] := Eq.trans rfl rfl
theorem er70_2 (φ : Nat → Nat) : r70_2 φ = [
  ⟨0, .N .mv, [.c (.bool false)], none, 0⟩] := Eq.trans rfl rfl
theorem er70_3 (φ : Nat → Nat) : r70_3 φ = [
  ⟨0, .N .mv, [.c (.int .i64 0)], none, 0⟩] := Eq.trans rfl rfl
theorem er70_4 (φ : Nat → Nat) : r70_4 φ = [
  ⟨0, .N .mv, [.n 3], none, 0⟩,
  ⟨1, .N .mv, [.n 0], none, 0⟩,
  ⟨2, .N .lenS, [.l 0], none, 0⟩,
  ⟨3, .N (.bin .lss), [.l 2, .l 0], none, 0⟩] := Eq.trans rfl rfl
theorem er70_5 (φ : Nat → Nat) : r70_5 φ = [
  ⟨0, .N .mv, [.n 0], none, 0⟩,
  ⟨1, .N .mv, [.n 3], none, 0⟩,
  ⟨2, .N (.idx 1), [.l 1, .l 0], none, 3⟩,
  ⟨3, .N .load1, [.l 0], none, 7⟩,
  ⟨4, .N .mv, [.n 1], none, 0⟩,
  ⟨5, .N .mv, [.n 3], none, 0⟩,
  ⟨6, .N (.idx 1), [.l 1, .l 0], none, 48⟩,
  ⟨7, .N .load1, [.l 0], none, 112⟩,
  ⟨8, .calli true (φ 11), [.l 4, .l 0], none, 255⟩,
  ⟨9, .N (.un .not), [.l 0], none, 511⟩] := Eq.trans rfl rfl
theorem er70_6 (φ : Nat → Nat) : r70_6 φ = [
  ⟨0, .N .mv, [.c (.bool false)], none, 0⟩] := Eq.trans rfl rfl
theorem er70_7 (φ : Nat → Nat) : r70_7 φ = [
  ⟨0, .N .mv, [.n 3], none, 0⟩,
  ⟨1, .N (.bin .add), [.l 0, .c (.int .i64 1)], none, 0⟩,
  ⟨2, .N .mv, [.l 0], none, 0⟩] := Eq.trans rfl rfl
theorem er70_9 (φ : Nat → Nat) : r70_9 φ = [
  ⟨0, .N .mv, [.c (.bool true)], none, 0⟩] := Eq.trans rfl rfl
theorem w_Classes (hx : A.ext (φ 68) = some clsExt) {H : Heap} {b bu bs N : Nat} {r : Nat → Nat} {cnt : Int} (p : PS H b bu bs N r cnt) (hN : N ≤ 1000) (K : AV → Heap → Prop)
    (hK : ∀ H', PS H' b bu bs N r cnt → (∀ k, k ≠ bu → H'[k]? = H[k]?) → H'.length = H.length → K (rowsV (cls r N)) H') : PCall A (φ 68) [.ptr b 0 0] H K := by
  obtain ⟨up, sz, pa, d, D, hd⟩ := p
  have hda : ∀ i, i < N → d i ≤ N := fun i hi => by have := hd i hi; have := csz_le N r (r i); omega
  have e1 := dec_okUp D hda
  have e2 : cls (iterU up N) N = cls r N := cls_congr fun i hi => iterU_dec D N i hi (hda i hi)
  have D2 := allTop_dec D hda (2 * N) (Nat.le_refl _)
  have h1 : clsExt [.ptr b 0 0] H = some (.ok (rowsV (cls r N)) (H.set bu (.cells 0 false (cI (allTop N up (2 * N)))))) := by
    unfold clsExt
    simp only [pa.hb, pa.hu]
    rw [if_pos ⟨trivial, trivial, hN, pa.ne.1⟩]
    simp only [decI_cI, e1, if_true, e2]
  refine ⟨1, _, _, ?_, hK _ ⟨_, sz, ⟨?_, List.getElem?_set_self (lt_of_get pa.hu), ?_, D2.len, pa.ls, pa.ne⟩, d, D2, hd⟩ (fun k hk => List.getElem?_set_ne (fun e => hk e.symm)) (by simp)⟩
  · show (match A.ext (φ 68) with | some x => x [.ptr b 0 0] H | none => _) = _
    rw [hx]; exact h1
  · rw [List.getElem?_set_ne (fun e => pa.ne.1 e.symm)]; exact pa.hb
  · rw [List.getElem?_set_ne pa.ne.2.2]; exact pa.hs
/-- The numbers of a new Part, behind k rounds. -/
def upK (k N : Nat) : List Int := (List.range N).map fun (i : Nat) => if i < k then (i : Int) else 0
def szK (k N : Nat) : List Int := (List.range N).map fun (i : Nat) => if i < k then 1 else 0
theorem mapR_set (f g : Nat → Int) (N k : Nat) (h : ∀ i, i < N → g i = if i = k then g k else f i) : ((List.range N).map f).set k (g k) = (List.range N).map g := by
  apply List.ext_getElem?
  intro i
  rw [List.getElem?_set]
  by_cases hi : i < N
  · have e := h i hi
    simp only [List.getElem?_map, List.getElem?_range hi, Option.map_some, List.length_map, List.length_range]
    by_cases hk : k = i
    · subst hk; simp [hi]
    · rw [if_neg hk, e, if_neg (fun x => hk x.symm)]
  · simp only [List.length_map, List.length_range]
    have e2 : (List.range N)[i]? = none := List.getElem?_eq_none (by simp; omega)
    by_cases hk : k = i
    · subst hk; simp [hi]
    · rw [if_neg hk]; simp [e2]
theorem upK_step {k N : Nat} (h : k < N) : (upK k N).set k (k : Int) = upK (k + 1) N := by
  have := mapR_set (fun i => if i < k then (i : Int) else 0) (fun i => if i < k + 1 then (i : Int) else 0) N k (fun i _ => by
    by_cases e : i = k
    · subst e; rw [if_pos rfl]
    · rw [if_neg e]; split <;> split <;> first | rfl | omega)
  simp only [if_pos (Nat.lt_succ_self k)] at this
  exact this
theorem szK_step {k N : Nat} (h : k < N) : (szK k N).set k 1 = szK (k + 1) N := by
  have := mapR_set (fun i => if i < k then 1 else 0) (fun i => if i < k + 1 then 1 else 0) N k (fun i _ => by
    by_cases e : i = k
    · subst e; rw [if_pos rfl]
    · rw [if_neg e]; split <;> split <;> first | rfl | omega)
  simp only [if_pos (Nat.lt_succ_self k)] at this
  exact this
theorem rep_new (N : Nat) : Rep N id (upK N N) := by
  have hu : ∀ i, i < N → upn (upK N N) i = i := fun i hi => by
    unfold upn upK
    rw [List.getD_eq_getElem?_getD]; simp [hi]
  refine ⟨fun _ => 0, ⟨by simp [upK], fun i hi => ?_, fun i hi => by rw [hu i hi]; exact hi, fun i hi => by rw [hu i hi], fun i hi => by rw [hu i hi]; simp, fun i hi => hi, fun i hi => rfl, fun i hi hn => absurd (hu i hi) hn⟩, fun i hi => csz_pos (r := id) hi⟩
  rw [hu i hi]
  unfold upK
  simp [hi]
def clampN (n : Int) : Nat := (min (max n 0) 1000).toNat
theorem w_PNew (h : Has A (φ 60) (f60 φ)) (n : Int) (H : Heap) (K : AV → Heap → Prop)
    (hK : ∀ H', PS H' (H.length + 2) H.length (H.length + 1) (clampN n) id (clampN n) → (∀ k, k < H.length → H'[k]? = H[k]?) → H'.length = H.length + 3 → K (.ptr (H.length + 2) 0 0) H') : PCall A (φ 60) [.int .i64 n] H K := by
  obtain ⟨N, hN⟩ : ∃ N : Nat, clampN n = N := ⟨_, rfl⟩
  have hN1 : N ≤ 1000 := by unfold clampN at hN; omega
  have hmm : min (max n 0) 1000 = (N : Int) := by unfold clampN at hN; omega
  rw [hN] at hK
  have m1 := maxV_i n 0
  have m2 := minV_i (max n 0) 1000
  rw [hmm] at m2
  refine pcall_has h rfl ?_
  simp only [l60_8, b60, f60]
  have hr0 : repA [.int .i64 0] N = cI (upK 0 N) := by
    rw [repA_repl]; unfold upK cI
    rw [List.map_map]
    apply List.ext_getElem?
    intro i
    rw [List.getElem?_replicate]
    by_cases hi : i < N
    · rw [if_pos hi]; simp [hi]
    · rw [if_neg hi, List.getElem?_eq_none (by simp; omega)]
  have hr1 : repA [.int .i64 0] N = cI (szK 0 N) := by rw [hr0]; rfl
  simp [-List.getD_eq_getElem?_getD, -Int.ofNat_toNat, -getElem?_pos, er60_0, er60_1, er60_2, er60_3, er60_4, er60_5, er60_6, er60_7, er60_9, m1, m2, foldV]
  refine ⟨by omega, ?_⟩
  have hst : ∀ S : Ob, (H ++ [Ob.cells 0 false (repA [.int .i64 0] N), Ob.cells 0 false (repA [.int .i64 0] N), S] : Heap) = H ++ [Ob.cells 0 false (cI (upK 0 N)), Ob.cells 0 false (cI (szK 0 N)), S] := fun S => by rw [← hr0, ← hr1]
  rw [hst]
  refine pc_loopI (fun m st => ∃ (k : Nat) (p3 p6 : AV), k + m = N ∧ st = ([.int .i64 N, .nilp, .ptr (H.length + 2) 0 0, p3, .int .i64 N, .int .i64 k, p6],
    H ++ [Ob.cells 0 false (cI (upK k N)), Ob.cells 0 false (cI (szK k N)), Ob.cells 0 false [.sl H.length 0 0 N 1 N true, .sl (H.length + 1) 0 0 N 1 N true, .int .i64 N]])) N ⟨0, _, _, by simp, rfl⟩ ?_
  rintro m st ⟨k, p3, p6, hk, rfl⟩
  by_cases hlt : k < N
  · have hlt' : (k : Int) < N := by omega
    have hkw := wrap1 hlt (by omega)
    have l1 : (cI (upK k N)).length = N := by simp [cI, upK]
    have l2 : (cI (szK k N)).length = N := by simp [cI, szK]
    have s1 : setAt (cI (upK k N)) k [.int .i64 (k : Int)] = cI (upK (k + 1) N) := by rw [setAt_one _ (by omega), ← cI_set, upK_step hlt]
    have s2 : setAt (cI (szK k N)) k [.int .i64 1] = cI (szK (k + 1) N) := by rw [setAt_one _ (by omega), ← cI_set, szK_step hlt]
    have hk1 : k + 1 ≤ N := by omega
    simp [-List.getD_eq_getElem?_getD, -Int.ofNat_toNat, -getElem?_pos, er60_0, er60_1, er60_2, er60_3, er60_4, er60_5, er60_6, er60_7, er60_9, hlt', hlt, hkw, get_at, get_at0, set_at, set_at0, l1, l2, s1, s2, hk1]
    exact next_mk (m - 1) (by omega) ⟨k + 1, _, _, by omega, rfl⟩
  · have hke : k = N := by omega
    subst hke
    have hK' := hK (H ++ [Ob.cells 0 false (cI (upK k k)), Ob.cells 0 false (cI (szK k k)), Ob.cells 0 false [.sl H.length 0 0 k 1 k true, .sl (H.length + 1) 0 0 k 1 k true, .int .i64 k]])
      ⟨upK k k, szK k k, ⟨by rw [get_at]; rfl, by rw [get_at0]; rfl, by rw [get_at]; rfl, by simp [upK], by simp [szK], by omega⟩, rep_new k⟩ (fun i hi => List.getElem?_append_left hi) (by simp)
    simp [-List.getD_eq_getElem?_getD, -Int.ofNat_toNat, -getElem?_pos, er60_0, er60_1, er60_2, er60_3, er60_4, er60_5, er60_6, er60_7, er60_9, resK, resVs, resV, pack]
    exact hK'
/-- Rows of rows, as a value. -/
def IsRows (v : AV) (rows : List (List Int)) : Prop := (v = .nils ∧ rows = []) ∨ ∃ l : List AV, v = .vs rows.length 1 l ∧ l.length = rows.length ∧ AV.closeds l = true ∧ ∀ (j : Nat) x zs, l[j]? = some x → rows[j]? = some zs → IsI x zs
theorem isRows_v (rows : List (List Int)) : IsRows (rowsV rows) rows := by
  unfold rowsV
  by_cases h : rows = []
  · rw [if_pos h]; exact .inl ⟨rfl, h⟩
  · rw [if_neg h]
    refine .inr ⟨_, rfl, by simp, ?_, fun j x zs hx hz => ?_⟩
    · rw [closeds_iff]
      intro i x hx
      rw [List.getElem?_map, Option.map_eq_some_iff] at hx
      obtain ⟨zs, _, rfl⟩ := hx
      exact closeds_cI zs
    · rw [List.getElem?_map, hz] at hx
      cases hx
      exact isI_v zs
theorem IsRows.closed {v : AV} {rows : List (List Int)} (h : IsRows v rows) : v.closed = true := by
  rcases h with ⟨rfl, _⟩ | ⟨l, rfl, _, hc, _⟩
  · rfl
  · exact hc
theorem IsRows.len {v : AV} {rows : List (List Int)} (h : IsRows v rows) (rd : Nat → Option Ob) : nstep .lenS [v] rd = some (.val (.int .i64 rows.length)) := by
  rcases h with ⟨rfl, rfl⟩ | ⟨l, rfl, _⟩ <;> rfl
theorem IsRows.one {v : AV} {rows : List (List Int)} (h : IsRows v rows) : v.one = true := by
  rcases h with ⟨rfl, rfl⟩ | ⟨l, rfl, _⟩ <;> rfl
theorem IsRows.at {v : AV} {rows : List (List Int)} (h : IsRows v rows) {i : Nat} (hi : i < rows.length) : ∃ l x, (∀ (k : IntKind) rd, nstep (.idx 1) [v, .int k (i : Int)] rd = some (.val (.vp l i))) ∧ l[i]? = some x ∧ IsI x rows[i] := by
  rcases h with ⟨rfl, rfl⟩ | ⟨l, rfl, hl, _, hx⟩
  · simp at hi
  · have hil : i < l.length := by omega
    refine ⟨l, l[i], fun k rd => ?_, List.getElem?_eq_getElem hil, hx i _ _ (List.getElem?_eq_getElem hil) (List.getElem?_eq_getElem hi)⟩
    rw [n_idxV, if_pos ⟨rfl, by omega, by omega, by omega⟩]; simp
theorem w_SameRows (h : Has A (φ 70) (f70 φ)) (hS : ∀ v u xs ys, IsI v xs → IsI u ys → xs.length < 1000000000000 → PVal A (φ 11) [v, u] (.bool (decide (xs = ys)))) (v u : AV) (xs ys : List (List Int)) (hv : IsRows v xs) (hu : IsRows u ys)
    (hn : xs.length < 1000000) (hr : ∀ l ∈ xs, l.length < 1000000) : PVal A (φ 70) [v, u] (.bool (decide (xs = ys))) := by
  have l1 := hv.len
  have l2 := hu.len
  refine pval_has h rfl ?_
  simp only [l70_8, b70, f70]
  by_cases hl : xs.length = ys.length
  · have hl' : (xs.length : Int) = ys.length := by omega
    simp [-List.getD_eq_getElem?_getD, -Int.ofNat_toNat, -getElem?_pos, er70_0, er70_1, er70_2, er70_3, er70_4, er70_5, er70_6, er70_7, er70_9, l1, l2, hl]
    refine pc_loopI (fun m st => ∃ (i : Nat) (p5 p6 : AV), i + m = xs.length ∧ xs.take i = ys.take i ∧ st = ([v, u, .bool false, .int .i64 i, .bool false, p5, p6], [])) xs.length ⟨0, _, _, by simp, by simp, rfl⟩ ?_
    rintro m st ⟨i, p5, p6, hi, he, rfl⟩
    by_cases hlt : i < xs.length
    · have hlt2 : i < ys.length := by omega
      have hlt' : (i : Int) < ys.length := by omega
      obtain ⟨c1, x1, a1, b1, d1⟩ := hv.at hlt
      obtain ⟨c2, x2, a2, b2, d2⟩ := hu.at hlt2
      have hw1 := wrap1 hlt (by omega)
      have hlen := hr _ (List.getElem_mem hlt)
      have cS := (hS x1 x2 _ _ d1 d2 (by omega)).eq
      have t1 : xs.take (i + 1) = xs.take i ++ [xs[i]] := List.take_succ_eq_append_getElem hlt
      have t2 : ys.take (i + 1) = ys.take i ++ [ys[i]] := List.take_succ_eq_append_getElem hlt2
      by_cases q : xs[i] = ys[i]
      · rw [decide_eq_true q] at cS
        simp [-List.getD_eq_getElem?_getD, -Int.ofNat_toNat, -getElem?_pos, er70_0, er70_1, er70_2, er70_3, er70_4, er70_5, er70_6, er70_7, er70_9, l1, l2, hl, hlt', hlt2, a1, a2, b1, b2, d1.closed, d2.closed, d1.one, d2.one, cS, hw1, PDX_eq]
        exact next_mk (m - 1) (by omega) ⟨i + 1, _, _, by omega, by rw [t1, t2, he, q], rfl⟩
      · have hne : ¬ xs = ys := fun e => q (by subst e; rfl)
        rw [decide_eq_false q] at cS
        simp [-List.getD_eq_getElem?_getD, -Int.ofNat_toNat, -getElem?_pos, er70_0, er70_1, er70_2, er70_3, er70_4, er70_5, er70_6, er70_7, er70_9, l1, l2, hl, hlt', hlt2, a1, a2, b1, b2, d1.closed, d2.closed, d1.one, d2.one, cS, hne, PDX_eq, resK, resVs, resV, pack]
    · have hlt' : ¬ (i : Int) < ys.length := by omega
      have e : xs = ys := by rw [List.take_of_length_le (by omega), List.take_of_length_le (by omega)] at he; exact he
      simp [-List.getD_eq_getElem?_getD, -Int.ofNat_toNat, -getElem?_pos, er70_0, er70_1, er70_2, er70_3, er70_4, er70_5, er70_6, er70_7, er70_9, l1, l2, hl, hlt', e, resK, resVs, resV, pack]
      try omega
  · have hne : ¬ xs = ys := fun e => hl (by rw [e])
    have hl' : ¬ (xs.length : Int) = ys.length := by omega
    simp [-List.getD_eq_getElem?_getD, -Int.ofNat_toNat, -getElem?_pos, er70_0, er70_1, er70_2, er70_3, er70_4, er70_5, er70_6, er70_7, er70_9, l1, l2, hl, hl', hne, resK, resVs, resV, pack]
end Go.Ai.G
/- Joins, as an equivalence; how many classes there are. -/
namespace Go.Ai.G
open Go.Ai
set_option maxRecDepth 100000
set_option linter.unusedSimpArgs false
set_option linter.unusedVariables false
variable {A : AProg} {φ : Nat → Nat}
/-- What joins make one. -/
inductive Cn (ps : List (Nat × Nat)) : Nat → Nat → Prop where
  | of {a b : Nat} (h : (a, b) ∈ ps) : Cn ps a b
  | refl (a : Nat) : Cn ps a a
  | symm {a b : Nat} (h : Cn ps a b) : Cn ps b a
  | trans {a b c : Nat} (h : Cn ps a b) (k : Cn ps b c) : Cn ps a c
theorem Cn.mono {ps qs : List (Nat × Nat)} (h : ∀ a b, (a, b) ∈ ps → Cn qs a b) : ∀ {a b : Nat}, Cn ps a b → Cn qs a b := by
  intro a b hc
  induction hc with
  | of hm => exact h _ _ hm
  | refl a => exact .refl a
  | symm _ ih => exact .symm ih
  | trans _ _ ih1 ih2 => exact .trans ih1 ih2
theorem Cn.fn {α : Type} {ps : List (Nat × Nat)} (f : Nat → α) (h : ∀ a b, (a, b) ∈ ps → f a = f b) : ∀ {a b : Nat}, Cn ps a b → f a = f b := by
  intro a b hc
  induction hc with
  | of hm => exact h _ _ hm
  | refl a => rfl
  | symm _ ih => exact ih.symm
  | trans _ _ ih1 ih2 => exact ih1.trans ih2
def Joined (N : Nat) (ps : List (Nat × Nat)) (r : Nat → Nat) : Prop := (∀ i j, Cn ps i j → r i = r j) ∧ ∀ i j, i < N → j < N → r i = r j → Cn ps i j
def rootsN (N : Nat) (r : Nat → Nat) : Nat := ((List.range N).filter fun i => decide (r i = i)).length
theorem rep_facts {N : Nat} {r : Nat → Nat} {up : List Int} (h : Rep N r up) : (∀ i, i < N → r i < N) ∧ ∀ i, i < N → r (r i) = r i := by
  obtain ⟨d, D, _⟩ := h
  exact ⟨D.rlt, D.rr⟩
theorem roots_cls {N : Nat} {r : Nat → Nat} (hlt : ∀ i, i < N → r i < N) (hrr : ∀ i, i < N → r (r i) = r i) : rootsN N r = (cls r N).length := by
  have hne : ∀ i, i < N → gcl r N (r i) ≠ [] := fun i hi h => by
    have : (i : Int) ∈ gcl r N (r i) := (gcl_mem _ _ _ _).2 ⟨i, hi, rfl, rfl⟩
    rw [h] at this; simp at this
  unfold rootsN cls
  rw [List.length_map]
  have e1 : (((List.range N).filter fun i => decide (r i = i)).map fun i => (ghd (gcl r N (r i))).toNat).length = ((List.range N).filter fun i => decide (r i = i)).length := List.length_map ..
  rw [← e1]
  refine len_of_mem _ _ ?_ ((List.nodup_range).filter _) fun x => ?_
  · rw [List.Nodup, List.pairwise_map]
    refine List.Pairwise.imp_of_mem ?_ ((List.nodup_range (n := N)).filter _)
    intro a b ha hb hab he
    simp only [List.mem_filter, List.mem_range, decide_eq_true_eq] at ha hb
    obtain ⟨i, h1, h2, h3⟩ := (gcl_mem _ _ _ _).1 (ghd_mem (hne a ha.1))
    obtain ⟨j, h4, h5, h6⟩ := (gcl_mem _ _ _ _).1 (ghd_mem (hne b hb.1))
    have : i = j := by omega
    subst this
    apply hab
    have : r a = r b := by omega
    rw [ha.2, hb.2] at this; exact this
  · simp only [List.mem_map, List.mem_filter, List.mem_range, decide_eq_true_eq]
    constructor
    · rintro ⟨i, ⟨h1, h2⟩, rfl⟩
      obtain ⟨j, h3, h4, h5⟩ := (gcl_mem _ _ _ _).1 (ghd_mem (hne i h1))
      have e : (ghd (gcl r N (r i))).toNat = j := by omega
      rw [e]
      refine ⟨h3, ?_⟩
      rw [h4, h5]
    · rintro ⟨h1, h2⟩
      refine ⟨r x, ⟨hlt x h1, hrr x h1⟩, ?_⟩
      rw [hrr x h1, h2]; omega
theorem roots_step {N : Nat} {r r' : Nat → Nat} (hlt : ∀ i, i < N → r i < N) (hrr : ∀ i, i < N → r (r i) = r i) {a c : Int} {cnt cnt' : Int} {ok : Bool} (hj : JoinR N r r' a c ok cnt cnt') (hc : cnt = rootsN N r) : cnt' = rootsN N r' := by
  cases ok with
  | false =>
    obtain ⟨rfl, rfl⟩ := hj.no rfl
    exact hc
  | true =>
    obtain ⟨rfl, x, y, hxy, hor, rfl⟩ := hj.yes rfl
    have hv := of_decide_eq_true hj.val.symm
    obtain ⟨⟨a1, a2⟩, ⟨c1, c2⟩, _⟩ := hv
    have hx : x < N ∧ r x = x := by
      rcases hor with ⟨rfl, rfl⟩ | ⟨rfl, rfl⟩ <;> exact ⟨hlt _ (by omega), hrr _ (by omega)⟩
    have hy : y < N ∧ r y = y := by
      rcases hor with ⟨rfl, rfl⟩ | ⟨rfl, rfl⟩ <;> exact ⟨hlt _ (by omega), hrr _ (by omega)⟩
    have hn : (y :: (List.range N).filter fun i => decide ((if r i = y then x else r i) = i)).length = ((List.range N).filter fun i => decide (r i = i)).length := by
      refine len_of_mem _ _ ?_ ((List.nodup_range).filter _) fun z => ?_
      · rw [List.nodup_cons]
        refine ⟨fun hm => ?_, (List.nodup_range).filter _⟩
        simp only [List.mem_filter, List.mem_range, decide_eq_true_eq] at hm
        rw [if_pos hy.2] at hm
        exact hxy hm.2
      · simp only [List.mem_cons, List.mem_filter, List.mem_range, decide_eq_true_eq]
        constructor
        · rintro (rfl | ⟨h1, h2⟩)
          · exact hy
          · refine ⟨h1, ?_⟩
            by_cases e : r z = y
            · rw [if_pos e] at h2
              subst h2
              exact hx.2
            · rw [if_neg e] at h2; exact h2
        · rintro ⟨h1, h2⟩
          by_cases e : z = y
          · exact .inl e
          · refine .inr ⟨h1, ?_⟩
            rw [if_neg (by rw [h2]; exact e)]; exact h2
    simp only [List.length_cons] at hn
    have hg : rootsN N (fun i => if r i = y then x else r i) = ((List.range N).filter fun i => decide ((if r i = y then x else r i) = i)).length := rfl
    rw [hg]
    unfold rootsN at hc
    omega
/-- A Part in the memory behind these joins. -/
def PSJ (H : Heap) (b bu bs N : Nat) (ps : List (Nat × Nat)) : Prop := ∃ r cnt, PS H b bu bs N r cnt ∧ Joined N ps r ∧ cnt = (rootsN N r : Nat)
theorem roots_le (N : Nat) (r : Nat → Nat) : rootsN N r ≤ N := by
  unfold rootsN
  exact Nat.le_trans (List.length_filter_le _ _) (by simp)
theorem roots_id (N : Nat) : rootsN N id = N := by
  unfold rootsN
  rw [List.filter_eq_self.2 (by simp)]; simp
end Go.Ai.G
/- PartOrder. -/
namespace Go.Ai.G
open Go.Ai
set_option maxRecDepth 100000
set_option linter.unusedSimpArgs false
set_option linter.unusedVariables false
variable {A : AProg} {φ : Nat → Nat}
attribute [local simp ↓] getD_z getD_s hid_k hid_o hid_q hid_v PO_nil PO_none PO_grd PD_nil PD_none PD_grd PDO_N PDO_X PDO_call PDO_calli PDO_callv PStep_N PStep_X PStep_call PStep_calli PC_skip PC_lab
  PC_ret PC_exit PC_reg PC_draw PC_seq PC_block PC_loop PC_scope PC_cond thenC_norm thenC_ret thenC_exit blockC_norm blockC_ret blockC_exit loopC_norm loopC_ret loopC_exit endR_ret
  endR_norm
attribute [local simp] gz PDX_free PDX_eq PStep_callv resK_none resK_t resK_tt KNO_val KNO_new KNO_ite KNO_map KXO_some KXO_ite KVA_t KVA_f KG_skip KG_tt KG_ff KG_tf KG_ft KB_true KB_false KNOD_val
  KNOD_new KNOD_ite n_mv n_pick n_bin n_eqB n_eqN n_eqS n_un n_conv n_fadd n_faddV n_fld1 n_fldN n_idx n_idxA n_idxV n_idxAV n_ext n_lenS n_lenS0 n_lenV n_lenT n_lenA n_min n_max
  n_build n_mkfn n_slc n_slc0 n_slcV n_slcA n_load1 n_loadN n_load1V n_loadNV n_alloc n_box n_bsl n_mksl n_nilcP n_nilcV n_nilcI n_nilcF x_store x_clear0 x_clear b_add b_sub b_mul
  b_eql b_neq b_lss b_leq b_gtr b_geq b_and16 unV ntouch gather hide unhide evalOpd applyOuts int_bne int_beq ite_bool ite_int one_bool cells_bool one_int cells_int one_str cells_str
  one_nilp cells_nilp one_ptr cells_ptr one_nils cells_nils one_sl cells_sl one_nilf cells_nilf one_fn cells_fn one_nili cells_nili one_mp cells_mp one_nilm cells_nilm one_iface
  cells_iface one_vs cells_vs one_vp cells_vp cells_agg Nat.testBit setAt_1 setAt_2 closeds_nil closeds_cons closed_bool closed_int closed_str closed_nilp closed_nils closed_nilm
  closed_nilf closed_nili closed_agg closed_tup closed_vs closed_vp closed_iface closed_fn closeds_cI closeds_cE viewA_closed viewR_closed AV.scal AV.scal0 fillA repA part_bool
  part_int part_str part_nilp part_ptr part_nils part_sl part_nilm part_mp part_nilf part_fn part_nili part_iface part_agg part_vs part_vp viewA_sl1 vaSl_cells wrap_0 wrap_1 wrap_2
  wrap_m1 set_last get_last
/-- What the laws on part ask of the functions. -/
structure SP (A : AProg) (φ : Nat → Nat) : Prop where
  new : Has A (φ 60) (f60 φ)
  is : Has A (φ 80) (f80 φ)
  top : Has A (φ 81) (f81 φ)
  join : Has A (φ 64) (f64 φ)
  same : Has A (φ 62) (f62 φ)
  count : Has A (φ 66) (f66 φ)
  classes : A.ext (φ 68) = some clsExt
  rows : ∀ v u xs ys, IsRows v xs → IsRows u ys → xs.length < 1000000 → (∀ l ∈ xs, l.length < 1000000) → PVal A (φ 70) [v, u] (.bool (decide (xs = ys)))
def rd (N : Int) (x : Int) : Nat := ((x % 65536).tmod N).toNat
theorem cls_len {N : Nat} {r : Nat → Nat} : (cls r N).length ≤ N ∧ ∀ l ∈ cls r N, l.length ≤ N := by
  unfold cls
  refine ⟨?_, fun l hl => ?_⟩
  · rw [List.length_map]; exact Nat.le_trans (List.length_filter_le _ _) (by simp)
  · obtain ⟨i, _, rfl⟩ := List.mem_map.1 hl
    exact gcl_len _ _ _
theorem PS.keep {H H' : Heap} {b bu bs N : Nat} {r : Nat → Nat} {cnt : Int} (p : PS H b bu bs N r cnt) (h : ∀ k, k = b ∨ k = bu ∨ k = bs → H'[k]? = H[k]?) : PS H' b bu bs N r cnt := by
  obtain ⟨up, sz, pa, hr⟩ := p
  exact ⟨up, sz, ⟨(h b (.inl rfl)).trans pa.hb, (h bu (.inr (.inl rfl))).trans pa.hu, (h bs (.inr (.inr rfl))).trans pa.hs, pa.lu, pa.ls, pa.ne⟩, hr⟩
theorem PSJ.keep {H H' : Heap} {b bu bs N : Nat} {ps : List (Nat × Nat)} (p : PSJ H b bu bs N ps) (h : ∀ k, k = b ∨ k = bu ∨ k = bs → H'[k]? = H[k]?) : PSJ H' b bu bs N ps := by
  obtain ⟨r, cnt, p, j⟩ := p
  exact ⟨r, cnt, p.keep h, j⟩
end Go.Ai.G
/- PartCounts. -/
namespace Go.Ai.G
open Go.Ai
set_option maxRecDepth 100000
set_option linter.unusedSimpArgs false
set_option linter.unusedVariables false
variable {A : AProg} {φ : Nat → Nat}
attribute [local simp ↓] getD_z getD_s hid_k hid_o hid_q hid_v PO_nil PO_none PO_grd PD_nil PD_none PD_grd PDO_N PDO_X PDO_call PDO_calli PDO_callv PStep_N PStep_X PStep_call PStep_calli PC_skip PC_lab
  PC_ret PC_exit PC_reg PC_draw PC_seq PC_block PC_loop PC_scope PC_cond thenC_norm thenC_ret thenC_exit blockC_norm blockC_ret blockC_exit loopC_norm loopC_ret loopC_exit endR_ret
  endR_norm
attribute [local simp] gz PDX_free PDX_eq PStep_callv resK_none resK_t resK_tt KNO_val KNO_new KNO_ite KNO_map KXO_some KXO_ite KVA_t KVA_f KG_skip KG_tt KG_ff KG_tf KG_ft KB_true KB_false KNOD_val
  KNOD_new KNOD_ite n_mv n_pick n_bin n_eqB n_eqN n_eqS n_un n_conv n_fadd n_faddV n_fld1 n_fldN n_idx n_idxA n_idxV n_idxAV n_ext n_lenS n_lenS0 n_lenV n_lenT n_lenA n_min n_max
  n_build n_mkfn n_slc n_slc0 n_slcV n_slcA n_load1 n_loadN n_load1V n_loadNV n_alloc n_box n_bsl n_mksl n_nilcP n_nilcV n_nilcI n_nilcF x_store x_clear0 x_clear b_add b_sub b_mul
  b_eql b_neq b_lss b_leq b_gtr b_geq b_and16 unV ntouch gather hide unhide evalOpd applyOuts int_bne int_beq ite_bool ite_int one_bool cells_bool one_int cells_int one_str cells_str
  one_nilp cells_nilp one_ptr cells_ptr one_nils cells_nils one_sl cells_sl one_nilf cells_nilf one_fn cells_fn one_nili cells_nili one_mp cells_mp one_nilm cells_nilm one_iface
  cells_iface one_vs cells_vs one_vp cells_vp cells_agg Nat.testBit setAt_1 setAt_2 closeds_nil closeds_cons closed_bool closed_int closed_str closed_nilp closed_nils closed_nilm
  closed_nilf closed_nili closed_agg closed_tup closed_vs closed_vp closed_iface closed_fn closeds_cI closeds_cE viewA_closed viewR_closed AV.scal AV.scal0 fillA repA part_bool
  part_int part_str part_nilp part_ptr part_nils part_sl part_nilm part_mp part_nilf part_fn part_nili part_iface part_agg part_vs part_vp viewA_sl1 vaSl_cells wrap_0 wrap_1 wrap_2
  wrap_m1 set_last get_last
theorem gcl_ne {r : Nat → Nat} {N i : Nat} (hi : i < N) : gcl r N (r i) ≠ [] := fun h => by
  have : (i : Int) ∈ gcl r N (r i) := (gcl_mem _ _ _ _).2 ⟨i, hi, rfl, rfl⟩
  rw [h] at this; simp at this
end Go.Ai.G
/- ref04: New, Is, Same, Join, Count. -/
namespace Go.Ai.G
open Go.Ai
set_option maxRecDepth 100000
set_option linter.unusedSimpArgs false
set_option linter.unusedVariables false
variable {A : AProg} {φ : Nat → Nat}
attribute [local simp ↓] getD_z getD_s hid_k hid_o hid_q hid_v PO_nil PO_none PO_grd PD_nil PD_none PD_grd PDO_N PDO_X PDO_call PDO_calli PDO_callv PStep_N PStep_X PStep_call PStep_calli PC_skip PC_lab
  PC_ret PC_exit PC_reg PC_draw PC_seq PC_block PC_loop PC_scope PC_cond thenC_norm thenC_ret thenC_exit blockC_norm blockC_ret blockC_exit loopC_norm loopC_ret loopC_exit endR_ret
  endR_norm
attribute [local simp] gz PDX_free PDX_eq PStep_callv resK_none resK_t resK_tt KNO_val KNO_new KNO_ite KNO_map KXO_some KXO_ite KVA_t KVA_f KG_skip KG_tt KG_ff KG_tf KG_ft KB_true KB_false KNOD_val
  KNOD_new KNOD_ite n_mv n_pick n_bin n_eqB n_eqN n_eqS n_un n_conv n_fadd n_faddV n_fld1 n_fldN n_idx n_idxA n_idxV n_idxAV n_ext n_lenS n_lenS0 n_lenV n_lenT n_lenA n_min n_max
  n_build n_mkfn n_slc n_slc0 n_slcV n_slcA n_load1 n_loadN n_load1V n_loadNV n_alloc n_box n_bsl n_mksl n_nilcP n_nilcV n_nilcI n_nilcF x_store x_clear0 x_clear b_add b_sub b_mul
  b_eql b_neq b_lss b_leq b_gtr b_geq b_and16 unV ntouch gather hide unhide evalOpd applyOuts int_bne int_beq ite_bool ite_int one_bool cells_bool one_int cells_int one_str cells_str
  one_nilp cells_nilp one_ptr cells_ptr one_nils cells_nils one_sl cells_sl one_nilf cells_nilf one_fn cells_fn one_nili cells_nili one_mp cells_mp one_nilm cells_nilm one_iface
  cells_iface one_vs cells_vs one_vp cells_vp cells_agg Nat.testBit setAt_1 setAt_2 closeds_nil closeds_cons closed_bool closed_int closed_str closed_nilp closed_nils closed_nilm
  closed_nilf closed_nili closed_agg closed_tup closed_vs closed_vp closed_iface closed_fn closeds_cI closeds_cE viewA_closed viewR_closed AV.scal AV.scal0 fillA repA part_bool
  part_int part_str part_nilp part_ptr part_nils part_sl part_nilm part_mp part_nilf part_fn part_nili part_iface part_agg part_vs part_vp viewA_sl1 vaSl_cells wrap_0 wrap_1 wrap_2
  wrap_m1 set_last get_last
theorem er61_0 (φ : Nat → Nat) : r61_0 φ = [
  ⟨0, .N .mv, [.c (.nilp)], none, 0⟩] := Eq.trans rfl rfl
theorem er61_1 (φ : Nat → Nat) : r61_1 φ = [
  ⟨0, .N (.build [.nils] []), [], none, 0⟩,
  ⟨1, .N .box, [.l 0], none, 0⟩,
  ⟨2, .N .mv, [.l 0], none, 0⟩] := Eq.trans rfl rfl
theorem er61_2 (φ : Nat → Nat) : r61_2 φ = [
  ⟨0, .N .mv, [.c (.int .i64 0)], none, 0⟩] := Eq.trans rfl rfl
theorem er61_3 (φ : Nat → Nat) : r61_3 φ = [
  ⟨0, .N .mv, [.n 3], none, 0⟩,
  ⟨1, .N .mv, [.n 0], none, 0⟩,
  ⟨2, .N (.bin .lss), [.l 1, .l 0], none, 0⟩,
  ⟨3, .N .mv, [.l 0], none, 0⟩,
  ⟨4, .N .mv, [.n 3], some (.l 0, true), 0⟩,
  ⟨5, .N (.bin .lss), [.l 0, .c (.int .i64 1000)], some (.l 1, true), 0⟩,
  ⟨6, .N .pick, [.l 2, .l 0, .c (.bool false)], none, 0⟩] := Eq.trans rfl rfl
theorem er61_4 (φ : Nat → Nat) : r61_4 φ = [
  ⟨0, .N .mv, [.n 2], none, 0⟩,
  ⟨1, .N .mv, [.n 2], none, 0⟩,
  ⟨2, .N .nilc, [.l 0], none, 0⟩,
  ⟨3, .N (.fadd 0), [.l 0], none, 0⟩,
  ⟨4, .N .load1, [.l 0], none, 0⟩,
  ⟨5, .N .mv, [.n 3], none, 0⟩,
  ⟨6, .N (.bsl [.int .i64 0] 1 1 [(0, 1)]), [.l 0], none, 0⟩,
  ⟨7, .X (.app 1 8), [.l 2, .l 0], none, 0⟩,
  ⟨8, .N .nilc, [.l 7], none, 0⟩,
  ⟨9, .N (.fadd 0), [.l 0], none, 0⟩,
  ⟨10, .X (.store 1), [.l 0, .l 2], none, 0⟩] := Eq.trans rfl rfl
theorem er61_5 (φ : Nat → Nat) : r61_5 φ = [
  ⟨0, .N .mv, [.n 3], none, 0⟩,
  ⟨1, .N (.bin .add), [.l 0, .c (.int .i64 1)], none, 0⟩,
  ⟨2, .N .mv, [.l 0], none, 0⟩] := Eq.trans rfl rfl
theorem er61_7 (φ : Nat → Nat) : r61_7 φ = [
  ⟨0, .N .mv, [.n 2], none, 0⟩,
  ⟨1, .N .mv, [.l 0], none, 0⟩] := Eq.trans rfl rfl
theorem er82_0 (φ : Nat → Nat) : r82_0 φ = [
  ⟨0, .N .mv, [.c (.bool false)], none, 0⟩] := Eq.trans rfl rfl
theorem er82_1 (φ : Nat → Nat) : r82_1 φ = [
  ⟨0, .N .mv, [.n 1], none, 0⟩,
  ⟨1, .N (.bin .geq), [.l 0, .c (.int .i64 0)], none, 0⟩,
  ⟨2, .N .mv, [.l 0], none, 0⟩,
  ⟨3, .N .mv, [.n 1], some (.l 0, true), 0⟩,
  ⟨4, .N .mv, [.n 0], some (.l 1, true), 0⟩,
  ⟨5, .N .nilc, [.l 0], some (.l 2, true), 0⟩,
  ⟨6, .N (.fadd 0), [.l 0], some (.l 3, true), 0⟩,
  ⟨7, .N .load1, [.l 0], some (.l 4, true), 0⟩,
  ⟨8, .N .lenS, [.l 0], some (.l 5, true), 0⟩,
  ⟨9, .N (.bin .lss), [.l 5, .l 0], some (.l 6, true), 0⟩,
  ⟨10, .N .pick, [.l 7, .l 0, .c (.bool false)], none, 0⟩,
  ⟨11, .N .mv, [.l 0], none, 0⟩] := Eq.trans rfl rfl
theorem er63_0 (φ : Nat → Nat) : r63_0 φ = [
  ⟨0, .N .mv, [.c (.bool false)], none, 0⟩] := Eq.trans rfl rfl
theorem er63_1 (φ : Nat → Nat) : r63_1 φ = [
  ⟨0, .N .mv, [.n 0], none, 0⟩,
  ⟨1, .N .mv, [.n 1], none, 0⟩,
  ⟨2, .call (φ 82), [.l 1, .l 0], none, 3⟩,
  ⟨3, .N .mv, [.l 0], none, 7⟩,
  ⟨4, .N .mv, [.n 0], some (.l 0, true), 15⟩,
  ⟨5, .N .mv, [.n 2], some (.l 1, true), 15⟩,
  ⟨6, .call (φ 82), [.l 1, .l 0], some (.l 2, true), 63⟩,
  ⟨7, .N .pick, [.l 3, .l 0, .c (.bool false)], none, 127⟩,
  ⟨8, .N .mv, [.l 0], none, 255⟩,
  ⟨9, .N .mv, [.n 0], some (.l 0, true), 511⟩,
  ⟨10, .N .nilc, [.l 0], some (.l 1, true), 1023⟩,
  ⟨11, .N (.fadd 0), [.l 0], some (.l 2, true), 2047⟩,
  ⟨12, .N .load1, [.l 0], some (.l 3, true), 4095⟩,
  ⟨13, .N .mv, [.n 1], some (.l 4, true), 511⟩,
  ⟨14, .N (.idx 1), [.l 1, .l 0], some (.l 5, true), 16383⟩,
  ⟨15, .N .load1, [.l 0], some (.l 6, true), 32767⟩,
  ⟨16, .N .mv, [.n 0], some (.l 7, true), 511⟩,
  ⟨17, .N .nilc, [.l 0], some (.l 8, true), 66047⟩,
  ⟨18, .N (.fadd 0), [.l 0], some (.l 9, true), 197119⟩,
  ⟨19, .N .load1, [.l 0], some (.l 10, true), 459263⟩,
  ⟨20, .N .mv, [.n 2], some (.l 11, true), 511⟩,
  ⟨21, .N (.idx 1), [.l 1, .l 0], some (.l 12, true), 2032127⟩,
  ⟨22, .N .load1, [.l 0], some (.l 13, true), 4129279⟩,
  ⟨23, .N (.bin .eql), [.l 7, .l 0], some (.l 14, true), 8388607⟩,
  ⟨24, .N .pick, [.l 15, .l 0, .c (.bool false)], none, 16777215⟩,
  ⟨25, .N .mv, [.l 0], none, 33554431⟩] := Eq.trans rfl rfl
theorem er65_0 (φ : Nat → Nat) : r65_0 φ = [
  ⟨0, .N .mv, [.c (.bool false)], none, 0⟩] := Eq.trans rfl rfl
theorem er65_1 (φ : Nat → Nat) : r65_1 φ = [
  ⟨0, .N .mv, [.n 0], none, 0⟩,
  ⟨1, .N .mv, [.n 1], none, 0⟩,
  ⟨2, .call (φ 82), [.l 1, .l 0], none, 3⟩,
  ⟨3, .N (.un .not), [.l 0], none, 7⟩,
  ⟨4, .N .mv, [.l 0], none, 15⟩,
  ⟨5, .N .mv, [.n 0], some (.l 0, false), 31⟩,
  ⟨6, .N .mv, [.n 2], some (.l 1, false), 31⟩,
  ⟨7, .call (φ 82), [.l 1, .l 0], some (.l 2, false), 127⟩,
  ⟨8, .N (.un .not), [.l 0], some (.l 3, false), 255⟩,
  ⟨9, .N .pick, [.l 4, .c (.bool true), .l 0], none, 511⟩,
  ⟨10, .N .mv, [.l 0], none, 1023⟩,
  ⟨11, .N .mv, [.n 0], some (.l 0, false), 2047⟩,
  ⟨12, .N .nilc, [.l 0], some (.l 1, false), 4095⟩,
  ⟨13, .N (.fadd 0), [.l 0], some (.l 2, false), 8191⟩,
  ⟨14, .N .load1, [.l 0], some (.l 3, false), 16383⟩,
  ⟨15, .N .mv, [.n 1], some (.l 4, false), 2047⟩,
  ⟨16, .N (.idx 1), [.l 1, .l 0], some (.l 5, false), 65535⟩,
  ⟨17, .N .load1, [.l 0], some (.l 6, false), 131071⟩,
  ⟨18, .N .mv, [.n 0], some (.l 7, false), 2047⟩,
  ⟨19, .N .nilc, [.l 0], some (.l 8, false), 264191⟩,
  ⟨20, .N (.fadd 0), [.l 0], some (.l 9, false), 788479⟩,
  ⟨21, .N .load1, [.l 0], some (.l 10, false), 1837055⟩,
  ⟨22, .N .mv, [.n 2], some (.l 11, false), 2047⟩,
  ⟨23, .N (.idx 1), [.l 1, .l 0], some (.l 12, false), 8128511⟩,
  ⟨24, .N .load1, [.l 0], some (.l 13, false), 16517119⟩,
  ⟨25, .N (.bin .eql), [.l 7, .l 0], some (.l 14, false), 33554431⟩,
  ⟨26, .N .pick, [.l 15, .c (.bool true), .l 0], none, 67108863⟩] := Eq.trans rfl rfl
theorem er65_2 (φ : Nat → Nat) : r65_2 φ = [
  ⟨0, .N .mv, [.c (.bool false)], none, 0⟩] := Eq.trans rfl rfl
theorem er65_3 (φ : Nat → Nat) : r65_3 φ = [
  ⟨0, .N .mv, [.n 0], none, 0⟩,
  ⟨1, .N .nilc, [.l 0], none, 1⟩,
  ⟨2, .N (.fadd 0), [.l 0], none, 3⟩,
  ⟨3, .N .load1, [.l 0], none, 7⟩,
  ⟨4, .N .mv, [.n 1], none, 0⟩,
  ⟨5, .N (.idx 1), [.l 1, .l 0], none, 31⟩,
  ⟨6, .N .load1, [.l 0], none, 63⟩,
  ⟨7, .N .mv, [.n 0], none, 0⟩,
  ⟨8, .N .nilc, [.l 0], none, 128⟩,
  ⟨9, .N (.fadd 0), [.l 0], none, 384⟩,
  ⟨10, .N .load1, [.l 0], none, 896⟩,
  ⟨11, .N .mv, [.n 2], none, 0⟩,
  ⟨12, .N (.idx 1), [.l 1, .l 0], none, 3968⟩,
  ⟨13, .N .load1, [.l 0], none, 8064⟩,
  ⟨14, .N .min, [.l 7, .l 0], none, 16383⟩,
  ⟨15, .N .mv, [.l 0], none, 32767⟩] := Eq.trans rfl rfl
theorem er65_4 (φ : Nat → Nat) : r65_4 φ = [
  ⟨0, .N .mv, [.n 0], none, 0⟩,
  ⟨1, .N .nilc, [.l 0], none, 1⟩,
  ⟨2, .N (.fadd 0), [.l 0], none, 3⟩,
  ⟨3, .N .load1, [.l 0], none, 7⟩,
  ⟨4, .N .mv, [.n 1], none, 0⟩,
  ⟨5, .N (.idx 1), [.l 1, .l 0], none, 31⟩,
  ⟨6, .N .load1, [.l 0], none, 63⟩,
  ⟨7, .N .mv, [.n 0], none, 0⟩,
  ⟨8, .N .nilc, [.l 0], none, 128⟩,
  ⟨9, .N (.fadd 0), [.l 0], none, 384⟩,
  ⟨10, .N .load1, [.l 0], none, 896⟩,
  ⟨11, .N .mv, [.n 2], none, 0⟩,
  ⟨12, .N (.idx 1), [.l 1, .l 0], none, 3968⟩,
  ⟨13, .N .load1, [.l 0], none, 8064⟩,
  ⟨14, .N .max, [.l 7, .l 0], none, 16383⟩,
  ⟨15, .N .mv, [.l 0], none, 32767⟩] := Eq.trans rfl rfl
theorem er65_5 (φ : Nat → Nat) : r65_5 φ = [
  ⟨0, .N .mv, [.c (.int .i64 0)], none, 0⟩] := Eq.trans rfl rfl
theorem er65_6 (φ : Nat → Nat) : r65_6 φ = [
  ⟨0, .N .mv, [.n 6], none, 0⟩,
  ⟨1, .N .mv, [.n 0], none, 0⟩,
  ⟨2, .N .nilc, [.l 0], none, 0⟩,
  ⟨3, .N (.fadd 0), [.l 0], none, 0⟩,
  ⟨4, .N .load1, [.l 0], none, 0⟩,
  ⟨5, .N .lenS, [.l 0], none, 0⟩,
  ⟨6, .N (.bin .lss), [.l 5, .l 0], none, 0⟩] := Eq.trans rfl rfl
theorem er65_7 (φ : Nat → Nat) : r65_7 φ = [
  ⟨0, .N .mv, [.n 0], none, 0⟩,
  ⟨1, .N .nilc, [.l 0], none, 0⟩,
  ⟨2, .N (.fadd 0), [.l 0], none, 0⟩,
  ⟨3, .N .load1, [.l 0], none, 0⟩,
  ⟨4, .N .mv, [.n 6], none, 0⟩,
  ⟨5, .N (.idx 1), [.l 1, .l 0], none, 0⟩,
  ⟨6, .N .load1, [.l 0], none, 0⟩,
  ⟨7, .N .mv, [.n 5], none, 0⟩,
  ⟨8, .N (.bin .eql), [.l 1, .l 0], none, 0⟩] := Eq.trans rfl rfl
theorem er65_8 (φ : Nat → Nat) : r65_8 φ = [
  ⟨0, .N .mv, [.n 0], none, 0⟩,
  ⟨1, .N .nilc, [.l 0], none, 0⟩,
  ⟨2, .N (.fadd 0), [.l 0], none, 0⟩,
  ⟨3, .N .load1, [.l 0], none, 0⟩,
  ⟨4, .N .mv, [.n 6], none, 0⟩,
  ⟨5, .N .mv, [.n 4], none, 0⟩,
  ⟨6, .N (.idx 1), [.l 2, .l 1], none, 0⟩,
  ⟨7, .X (.store 1), [.l 0, .l 1], none, 0⟩] := Eq.trans rfl rfl
theorem er65_9 (φ : Nat → Nat) : r65_9 φ = [
  ⟨0, .N .mv, [.n 6], none, 0⟩,
  ⟨1, .N (.bin .add), [.l 0, .c (.int .i64 1)], none, 0⟩,
  ⟨2, .N .mv, [.l 0], none, 0⟩] := Eq.trans rfl rfl
theorem er65_11 (φ : Nat → Nat) : r65_11 φ = [
  ⟨0, .N .mv, [.c (.bool true)], none, 0⟩] := Eq.trans rfl rfl
theorem er67_0 (φ : Nat → Nat) : r67_0 φ = [
  ⟨0, .N .mv, [.c (.int .i64 0)], none, 0⟩] := Eq.trans rfl rfl
theorem er67_1 (φ : Nat → Nat) : r67_1 φ = [
  ⟨0, .N .mv, [.c (.int .i64 0)], none, 0⟩] := Eq.trans rfl rfl
theorem er67_2 (φ : Nat → Nat) : r67_2 φ = [
  ⟨0, .N .mv, [.c (.int .i64 0)], none, 0⟩] := Eq.trans rfl rfl
theorem er67_3 (φ : Nat → Nat) : r67_3 φ = [
  ⟨0, .N .mv, [.n 3], none, 0⟩,
  ⟨1, .N .mv, [.n 0], none, 0⟩,
  ⟨2, .N .nilc, [.l 0], none, 0⟩,
  ⟨3, .N (.fadd 0), [.l 0], none, 0⟩,
  ⟨4, .N .load1, [.l 0], none, 0⟩,
  ⟨5, .N .lenS, [.l 0], none, 0⟩,
  ⟨6, .N (.bin .lss), [.l 5, .l 0], none, 0⟩] := Eq.trans rfl rfl
theorem er67_4 (φ : Nat → Nat) : r67_4 φ = [
  ⟨0, .N .mv, [.n 0], none, 0⟩,
  ⟨1, .N .nilc, [.l 0], none, 0⟩,
  ⟨2, .N (.fadd 0), [.l 0], none, 0⟩,
  ⟨3, .N .load1, [.l 0], none, 0⟩,
  ⟨4, .N .mv, [.n 3], none, 0⟩,
  ⟨5, .N (.idx 1), [.l 1, .l 0], none, 0⟩,
  ⟨6, .N .load1, [.l 0], none, 0⟩,
  ⟨7, .N .mv, [.n 3], none, 0⟩,
  ⟨8, .N (.bin .eql), [.l 1, .l 0], none, 0⟩] := Eq.trans rfl rfl
theorem er67_5 (φ : Nat → Nat) : r67_5 φ = [
  ⟨0, .N .mv, [.n 2], none, 0⟩,
  ⟨1, .N (.bin .add), [.l 0, .c (.int .i64 1)], none, 0⟩,
  ⟨2, .N .mv, [.l 0], none, 0⟩] := Eq.trans rfl rfl
theorem er67_6 (φ : Nat → Nat) : r67_6 φ = [
  ⟨0, .N .mv, [.n 3], none, 0⟩,
  ⟨1, .N (.bin .add), [.l 0, .c (.int .i64 1)], none, 0⟩,
  ⟨2, .N .mv, [.l 0], none, 0⟩] := Eq.trans rfl rfl
theorem er67_8 (φ : Nat → Nat) : r67_8 φ = [
  ⟨0, .N .mv, [.n 2], none, 0⟩,
  ⟨1, .N .mv, [.l 0], none, 0⟩] := Eq.trans rfl rfl
/-- The reference's Part in the memory: its struct at q, the least ones in blocks behind it. -/
def RP (H : Heap) (q : Nat) (L : List Int) : Prop := ∃ o, H[q]? = some (.cells 0 false [o]) ∧ OwnI true (q + 1) H o L
theorem RP.keep {H H' : Heap} {q : Nat} {L : List Int} (p : RP H q L) (h : ∀ k, q ≤ k → k < H.length → H'[k]? = H[k]?) : RP H' q L := by
  obtain ⟨o, h1, h2⟩ := p
  exact ⟨o, (h q (Nat.le_refl _) (lt_of_get h1)).trans h1, Own.keep h2 fun b hb hbe => h b (by have := (Own.blk h2 hbe).1; omega) hb⟩
theorem w_RIs (h : Has A (φ 82) (f82 φ)) {H : Heap} {q : Nat} {L : List Int} (p : RP H q L) (a : Int) (K : AV → Heap → Prop) (hK : K (.bool (decide (inN L.length a))) H) :
    PCall A (φ 82) [.ptr q 0 0, .int .i64 a] H K := by
  obtain ⟨o, hb, ho⟩ := p
  have hl := Own.len ho
  refine pcall_has h rfl ?_
  simp only [b82, f82]
  by_cases q1 : 0 ≤ a
  · have e : decide (inN L.length a) = decide (a < (L.length : Int)) := by rw [decide_eq_decide]; simp [inN, q1]
    rw [e] at hK
    simp [-List.getD_eq_getElem?_getD, -Int.ofNat_toNat, -getElem?_pos, er82_0, er82_1, hb, q1, hl, resK, resVs, resV, pack]
    exact hK
  · have e : decide (inN L.length a) = false := by simp [inN, q1]
    rw [e] at hK
    simp [-List.getD_eq_getElem?_getD, -Int.ofNat_toNat, -getElem?_pos, er82_0, er82_1, hb, q1, resK, resVs, resV, pack]
    exact hK
def sameR (L : List Int) (a b : Int) : Bool := decide (inN L.length a ∧ inN L.length b ∧ L.getD a.toNat 0 = L.getD b.toNat 0)
theorem w_RSame (h : Has A (φ 63) (f63 φ)) (hi : Has A (φ 82) (f82 φ)) {H : Heap} {q : Nat} {L : List Int} (p : RP H q L) (x y : Int) (K : AV → Heap → Prop) (hK : K (.bool (sameR L x y)) H) :
    PCall A (φ 63) [.ptr q 0 0, .int .i64 x, .int .i64 y] H K := by
  have p0 := p
  obtain ⟨o, hb, ho⟩ := p0
  refine pcall_has h rfl ?_
  simp only [b63, f63]
  simp [-List.getD_eq_getElem?_getD, -Int.ofNat_toNat, -getElem?_pos, er63_0, er63_1]
  refine w_RIs hi p x _ ?_
  simp only [hid_k]
  by_cases h1 : inN L.length x
  · rw [decide_eq_true h1]
    simp [-List.getD_eq_getElem?_getD, -Int.ofNat_toNat, -getElem?_pos, er63_0, er63_1]
    refine w_RIs hi p y _ ?_
    simp only [hid_k]
    by_cases h2 : inN L.length y
    · rw [decide_eq_true h2]
      obtain ⟨a, rfl⟩ : ∃ a : Nat, x = (a : Int) := ⟨x.toNat, by have := h1.1; omega⟩
      obtain ⟨c, rfl⟩ : ∃ c : Nat, y = (c : Int) := ⟨y.toNat, by have := h2.1; omega⟩
      have ha : a < L.length := by have := h1.2; omega
      have hc : c < L.length := by have := h2.2; omega
      obtain ⟨b1, g1, oa, ca, _⟩ := Own.at ho ha
      obtain ⟨b2, g2, oc, cc, _⟩ := Own.at ho hc
      have za := cI_get ha
      have zc := cI_get hc
      have e : sameR L (a : Int) (c : Int) = decide (L[a] = L[c]) := by
        unfold sameR
        rw [decide_eq_decide]
        simp only [Int.toNat_natCast, List.getD_eq_getElem?_getD, List.getElem?_eq_getElem ha, List.getElem?_eq_getElem hc, Option.getD_some]
        exact ⟨fun h => h.2.2, fun h => ⟨h1, h2, h⟩⟩
      rw [e] at hK
      simp [-List.getD_eq_getElem?_getD, -Int.ofNat_toNat, -getElem?_pos, er63_0, er63_1, hb, oa, oc, ca, cc, za, zc, resK, resVs, resV, pack]
      exact hK
    · have e : sameR L x y = false := by unfold sameR; exact decide_eq_false (fun h => h2 h.2.1)
      rw [e] at hK
      rw [decide_eq_false h2]
      simp [-List.getD_eq_getElem?_getD, -Int.ofNat_toNat, -getElem?_pos, er63_0, er63_1, resK, resVs, resV, pack]
      exact hK
  · have e : sameR L x y = false := by unfold sameR; exact decide_eq_false (fun h => h1 h.1)
    rw [e] at hK
    rw [decide_eq_false h1]
    simp [-List.getD_eq_getElem?_getD, -Int.ofNat_toNat, -getElem?_pos, er63_0, er63_1, resK, resVs, resV, pack]
    exact hK
theorem w_RCount (h : Has A (φ 67) (f67 φ)) {H : Heap} {q : Nat} {L : List Int} (p : RP H q L) (hn : L.length ≤ 1000) (K : AV → Heap → Prop) (hK : K (.int .i64 (((List.range L.length).filter fun i => decide (L.getD i 0 = (i : Int))).length : Nat)) H) :
    PCall A (φ 67) [.ptr q 0 0] H K := by
  obtain ⟨o, hb, ho⟩ := p
  have hl := Own.len ho
  refine pcall_has h rfl ?_
  simp only [l67_7, b67, f67]
  simp [-List.getD_eq_getElem?_getD, -Int.ofNat_toNat, -getElem?_pos, er67_0, er67_1, er67_2, er67_3, er67_4, er67_5, er67_6, er67_8]
  refine pc_loopI (fun m st => ∃ (i : Nat) (p4 p5 : AV), i + m = L.length ∧ st = ([.ptr q 0 0, .int .i64 0, .int .i64 (((List.range i).filter fun i => decide (L.getD i 0 = (i : Int))).length : Nat), .int .i64 i, p4, p5], H)) L.length ⟨0, _, _, by simp, rfl⟩ ?_
  rintro m st ⟨i, p4, p5, hi, rfl⟩
  by_cases hlt : i < L.length
  · have hlt' : (i : Int) < L.length := by omega
    have hiw := wrap1 hlt (by omega)
    obtain ⟨b1, g1, oa, ca, _⟩ := Own.at ho hlt
    have za := cI_get hlt
    have hgd : L.getD i 0 = L[i] := by rw [List.getD_eq_getElem?_getD, List.getElem?_eq_getElem hlt]; rfl
    have hfl : ((List.range i).filter fun i => decide (L.getD i 0 = (i : Int))).length ≤ i := Nat.le_trans (List.length_filter_le _ _) (by simp)
    have hcw : IntKind.i64.wrap ((((List.range i).filter fun i => decide (L.getD i 0 = (i : Int))).length : Int) + 1) = (((List.range i).filter fun i => decide (L.getD i 0 = (i : Int))).length : Int) + 1 := wrap_in (by omega) (by omega)
    have hst : ((List.range (i + 1)).filter fun i => decide (L.getD i 0 = (i : Int))).length = ((List.range i).filter fun i => decide (L.getD i 0 = (i : Int))).length + (if L[i] = (i : Int) then 1 else 0) := by
      rw [List.range_succ, List.filter_append, List.length_append]
      congr 1
      rw [List.filter_cons, hgd]
      by_cases e : L[i] = (i : Int) <;> simp [e]
    generalize ((List.range i).filter fun i => decide (L.getD i 0 = (i : Int))).length = cn at *
    by_cases e : L[i] = (i : Int)
    · rw [if_pos e] at hst
      simp [-List.getD_eq_getElem?_getD, -Int.ofNat_toNat, -getElem?_pos, er67_0, er67_1, er67_2, er67_3, er67_4, er67_5, er67_6, er67_8, hb, hl, hlt', hlt, oa, ca, za, e, hcw, hiw]
      exact next_mk (m - 1) (by omega) ⟨i + 1, _, _, by omega, by rw [hst]; rfl⟩
    · rw [if_neg e] at hst
      simp [-List.getD_eq_getElem?_getD, -Int.ofNat_toNat, -getElem?_pos, er67_0, er67_1, er67_2, er67_3, er67_4, er67_5, er67_6, er67_8, hb, hl, hlt', hlt, oa, ca, za, e, hiw]
      exact next_mk (m - 1) (by omega) ⟨i + 1, _, _, by omega, by rw [hst]; rfl⟩
  · have hlt' : ¬ (i : Int) < L.length := by omega
    have hie : i = L.length := by omega
    subst hie
    simp [-List.getD_eq_getElem?_getD, -Int.ofNat_toNat, -getElem?_pos, er67_0, er67_1, er67_2, er67_3, er67_4, er67_5, er67_6, er67_8, hb, hl, resK, resVs, resV, pack]
    exact hK
def idL (N : Nat) : List Int := (List.range N).map fun (i : Nat) => (i : Int)
theorem w_RNew (h : Has A (φ 61) (f61 φ)) (n : Int) (H : Heap) (K : AV → Heap → Prop)
    (hK : ∀ H', RP H' H.length (idL (clampN n)) → (∀ k, k < H.length → H'[k]? = H[k]?) → H.length < H'.length → K (.ptr H.length 0 0) H') : PCall A (φ 61) [.int .i64 n] H K := by
  obtain ⟨N, hN⟩ : ∃ N : Nat, clampN n = N := ⟨_, rfl⟩
  have hN1 : N ≤ 1000 := by unfold clampN at hN; omega
  rw [hN] at hK
  refine pcall_has h rfl ?_
  simp only [l61_6, b61, f61]
  simp [-List.getD_eq_getElem?_getD, -Int.ofNat_toNat, -getElem?_pos, er61_0, er61_1, er61_2, er61_3, er61_4, er61_5, er61_7]
  refine pc_loopI (fun m st => ∃ (i : Nat) (p4 o : AV) (H' : Heap), i + m = N ∧ H'[H.length]? = some (.cells 0 false [o]) ∧ OwnI true (H.length + 1) H' o (idL i) ∧ (∀ k, k < H.length → H'[k]? = H[k]?) ∧ H.length < H'.length ∧ st = ([.int .i64 n, .nilp, .ptr H.length 0 0, .int .i64 i, p4], H')) N
    ⟨0, _, .nils, _, by simp, get_at0 _ _, own_nil _ _ _, fun k hk => List.getElem?_append_left hk, by simp, rfl⟩ ?_
  rintro m st ⟨i, p4, o, H', hi, hb, ho, hk, hl, rfl⟩
  by_cases hlt : i < N
  · have h1 : (i : Int) < n := by unfold clampN at hN; omega
    have h2 : (i : Int) < 1000 := by omega
    have hiw := wrap1 hlt (by omega)
    have h2' : i < 1000 := by omega
    obtain ⟨o1, H1, x1, x2, x3, x4, _, _⟩ := OwnI.app1 ho (i : Int) (by omega) (by simp [idL]; omega)
    have hb1 : H1[H.length]? = some (.cells 0 false [o]) := by rw [x3 _ (by omega)]; exact hb
    have hone : o1.one = true := Own.one x2
    have hcel : o1.cells = [o1] := Own.cells x2
    have hid : idL (i + 1) = idL i ++ [(i : Int)] := by simp [idL, List.range_succ]
    have hset : setAt [o] 0 [o1] = [o1] := rfl
    simp [-List.getD_eq_getElem?_getD, -Int.ofNat_toNat, -getElem?_pos, er61_0, er61_1, er61_2, er61_3, er61_4, er61_5, er61_7, h1, h2, h2', hb, x1, hb1, hone, hcel, hset, hiw]
    refine next_mk (m - 1) (by omega) ⟨i + 1, _, o1, _, by omega, List.getElem?_set_self (by omega), ?_, fun k hk' => ?_, by simp; omega, rfl⟩
    · rw [hid]; exact Own.keep x2 fun b hb hbv => List.getElem?_set_ne (by have := (Own.blk x2 hbv).1; omega)
    · rw [List.getElem?_set_ne (by omega), x3 k (by omega)]; exact hk k hk'
  · have hie : i = N := by omega
    subst hie
    have hK' := hK H' ⟨o, hb, ho⟩ hk hl
    by_cases h1 : (i : Int) < n
    · have h2 : ¬ (i : Int) < 1000 := by unfold clampN at hN; omega
      have h2' : ¬ i < 1000 := by omega
      simp [-List.getD_eq_getElem?_getD, -Int.ofNat_toNat, -getElem?_pos, er61_0, er61_1, er61_2, er61_3, er61_4, er61_5, er61_7, h1, h2, h2', resK, resVs, resV, pack]
      exact hK'
    · simp [-List.getD_eq_getElem?_getD, -Int.ofNat_toNat, -getElem?_pos, er61_0, er61_1, er61_2, er61_3, er61_4, er61_5, er61_7, h1, resK, resVs, resV, pack]
      exact hK'
end Go.Ai.G
/- ref04: Join, Classes. -/
namespace Go.Ai.G
open Go.Ai
set_option maxRecDepth 100000
set_option linter.unusedSimpArgs false
set_option linter.unusedVariables false
variable {A : AProg} {φ : Nat → Nat}
attribute [local simp ↓] getD_z getD_s hid_k hid_o hid_q hid_v PO_nil PO_none PO_grd PD_nil PD_none PD_grd PDO_N PDO_X PDO_call PDO_calli PDO_callv PStep_N PStep_X PStep_call PStep_calli PC_skip PC_lab
  PC_ret PC_exit PC_reg PC_draw PC_seq PC_block PC_loop PC_scope PC_cond thenC_norm thenC_ret thenC_exit blockC_norm blockC_ret blockC_exit loopC_norm loopC_ret loopC_exit endR_ret
  endR_norm
attribute [local simp] gz PDX_free PDX_eq PStep_callv resK_none resK_t resK_tt KNO_val KNO_new KNO_ite KNO_map KXO_some KXO_ite KVA_t KVA_f KG_skip KG_tt KG_ff KG_tf KG_ft KB_true KB_false KNOD_val
  KNOD_new KNOD_ite n_mv n_pick n_bin n_eqB n_eqN n_eqS n_un n_conv n_fadd n_faddV n_fld1 n_fldN n_idx n_idxA n_idxV n_idxAV n_ext n_lenS n_lenS0 n_lenV n_lenT n_lenA n_min n_max
  n_build n_mkfn n_slc n_slc0 n_slcV n_slcA n_load1 n_loadN n_load1V n_loadNV n_alloc n_box n_bsl n_mksl n_nilcP n_nilcV n_nilcI n_nilcF x_store x_clear0 x_clear b_add b_sub b_mul
  b_eql b_neq b_lss b_leq b_gtr b_geq b_and16 unV ntouch gather hide unhide evalOpd applyOuts int_bne int_beq ite_bool ite_int one_bool cells_bool one_int cells_int one_str cells_str
  one_nilp cells_nilp one_ptr cells_ptr one_nils cells_nils one_sl cells_sl one_nilf cells_nilf one_fn cells_fn one_nili cells_nili one_mp cells_mp one_nilm cells_nilm one_iface
  cells_iface one_vs cells_vs one_vp cells_vp cells_agg Nat.testBit setAt_1 setAt_2 closeds_nil closeds_cons closed_bool closed_int closed_str closed_nilp closed_nils closed_nilm
  closed_nilf closed_nili closed_agg closed_tup closed_vs closed_vp closed_iface closed_fn closeds_cI closeds_cE viewA_closed viewR_closed AV.scal AV.scal0 fillA repA part_bool
  part_int part_str part_nilp part_ptr part_nils part_sl part_nilm part_mp part_nilf part_fn part_nili part_iface part_agg part_vs part_vp viewA_sl1 vaSl_cells wrap_0 wrap_1 wrap_2
  wrap_m1 set_last get_last
theorem er69_0 (φ : Nat → Nat) : r69_0 φ = [
  ⟨0, .N .mv, [.c (.nils)], none, 0⟩] := Eq.trans rfl rfl
theorem er69_1 (φ : Nat → Nat) : r69_1 φ = [
  ⟨0, .N (.bsl [.nils] 0 1 []), [], none, 0⟩,
  ⟨1, .N .mv, [.l 0], none, 0⟩] := Eq.trans rfl rfl
theorem er69_2 (φ : Nat → Nat) : r69_2 φ = [
  ⟨0, .N .mv, [.c (.int .i64 0)], none, 0⟩] := Eq.trans rfl rfl
theorem er69_3 (φ : Nat → Nat) : r69_3 φ = [
  ⟨0, .N .mv, [.n 3], none, 0⟩,
  ⟨1, .N .mv, [.n 0], none, 0⟩,
  ⟨2, .N .nilc, [.l 0], none, 0⟩,
  ⟨3, .N (.fadd 0), [.l 0], none, 0⟩,
  ⟨4, .N .load1, [.l 0], none, 0⟩,
  ⟨5, .N .lenS, [.l 0], none, 0⟩,
  ⟨6, .N (.bin .lss), [.l 5, .l 0], none, 0⟩] := Eq.trans rfl rfl
theorem er69_4 (φ : Nat → Nat) : r69_4 φ = [
  ⟨0, .N .mv, [.n 0], none, 0⟩,
  ⟨1, .N .nilc, [.l 0], none, 0⟩,
  ⟨2, .N (.fadd 0), [.l 0], none, 0⟩,
  ⟨3, .N .load1, [.l 0], none, 0⟩,
  ⟨4, .N .mv, [.n 3], none, 0⟩,
  ⟨5, .N (.idx 1), [.l 1, .l 0], none, 0⟩,
  ⟨6, .N .load1, [.l 0], none, 0⟩,
  ⟨7, .N .mv, [.n 3], none, 0⟩,
  ⟨8, .N (.bin .neq), [.l 1, .l 0], none, 0⟩] := Eq.trans rfl rfl
theorem er69_5 (φ : Nat → Nat) : r69_5 φ = [
  ⟨0, .N (.bsl [.int .i64 0] 0 1 []), [], none, 0⟩,
  ⟨1, .N .mv, [.l 0], none, 0⟩] := Eq.trans rfl rfl
theorem er69_6 (φ : Nat → Nat) : r69_6 φ = [
  ⟨0, .N .mv, [.n 3], none, 0⟩,
  ⟨1, .N .mv, [.l 0], none, 0⟩] := Eq.trans rfl rfl
theorem er69_7 (φ : Nat → Nat) : r69_7 φ = [
  ⟨0, .N .mv, [.n 5], none, 0⟩,
  ⟨1, .N .mv, [.n 0], none, 0⟩,
  ⟨2, .N .nilc, [.l 0], none, 0⟩,
  ⟨3, .N (.fadd 0), [.l 0], none, 0⟩,
  ⟨4, .N .load1, [.l 0], none, 0⟩,
  ⟨5, .N .lenS, [.l 0], none, 0⟩,
  ⟨6, .N (.bin .lss), [.l 5, .l 0], none, 0⟩] := Eq.trans rfl rfl
theorem er69_8 (φ : Nat → Nat) : r69_8 φ = [
  ⟨0, .N .mv, [.n 0], none, 0⟩,
  ⟨1, .N .nilc, [.l 0], none, 0⟩,
  ⟨2, .N (.fadd 0), [.l 0], none, 0⟩,
  ⟨3, .N .load1, [.l 0], none, 0⟩,
  ⟨4, .N .mv, [.n 5], none, 0⟩,
  ⟨5, .N (.idx 1), [.l 1, .l 0], none, 0⟩,
  ⟨6, .N .load1, [.l 0], none, 0⟩,
  ⟨7, .N .mv, [.n 3], none, 0⟩,
  ⟨8, .N (.bin .eql), [.l 1, .l 0], none, 0⟩] := Eq.trans rfl rfl
theorem er69_9 (φ : Nat → Nat) : r69_9 φ = [
  ⟨0, .N .mv, [.n 4], none, 0⟩,
  ⟨1, .N .mv, [.n 5], none, 0⟩,
  ⟨2, .N (.bsl [.int .i64 0] 1 1 [(0, 1)]), [.l 0], none, 0⟩,
  ⟨3, .X (.app 1 8), [.l 2, .l 0], none, 0⟩,
  ⟨4, .N .mv, [.l 0], none, 0⟩] := Eq.trans rfl rfl
theorem er69_10 (φ : Nat → Nat) : r69_10 φ = [
  ⟨0, .N .mv, [.n 5], none, 0⟩,
  ⟨1, .N (.bin .add), [.l 0, .c (.int .i64 1)], none, 0⟩,
  ⟨2, .N .mv, [.l 0], none, 0⟩] := Eq.trans rfl rfl
theorem er69_12 (φ : Nat → Nat) : r69_12 φ = [
  ⟨0, .N .mv, [.n 2], none, 0⟩,
  ⟨1, .N .mv, [.n 4], none, 0⟩,
  ⟨2, .N (.bsl [.nils] 1 1 [(0, 1)]), [.l 0], none, 0⟩,
  ⟨3, .X (.app 1 24), [.l 2, .l 0], none, 0⟩,
  ⟨4, .N .mv, [.l 0], none, 0⟩] := Eq.trans rfl rfl
theorem er69_13 (φ : Nat → Nat) : r69_13 φ = [
  ⟨0, .N .mv, [.n 3], none, 0⟩,
  ⟨1, .N (.bin .add), [.l 0, .c (.int .i64 1)], none, 0⟩,
  ⟨2, .N .mv, [.l 0], none, 0⟩] := Eq.trans rfl rfl
theorem er69_15 (φ : Nat → Nat) : r69_15 φ = [
  ⟨0, .N .mv, [.n 2], none, 0⟩,
  ⟨1, .N .mv, [.l 0], none, 0⟩] := Eq.trans rfl rfl
structure JoinL (L L' : List Int) (a c : Int) (ok : Bool) : Prop where
  val : ok = decide (inN L.length a ∧ inN L.length c ∧ L.getD a.toNat 0 ≠ L.getD c.toNat 0)
  no : ok = false → L' = L
  yes : ok = true → L' = L.map fun z => if z = max (L.getD a.toNat 0) (L.getD c.toNat 0) then min (L.getD a.toNat 0) (L.getD c.toNat 0) else z
set_option maxHeartbeats 2000000 in
theorem w_RJoin (h : Has A (φ 65) (f65 φ)) (hi : Has A (φ 82) (f82 φ)) {H : Heap} {q : Nat} {L : List Int} (p : RP H q L) (hn : L.length ≤ 1000) (x y : Int)
    (K : AV → Heap → Prop) (hK : ∀ H' L' ok, RP H' q L' → (∀ k, k < q → H'[k]? = H[k]?) → H'.length = H.length → JoinL L L' x y ok → K (.bool ok) H') : PCall A (φ 65) [.ptr q 0 0, .int .i64 x, .int .i64 y] H K := by
  have p0 := p
  obtain ⟨o, hb, ho⟩ := p0
  have hl := Own.len ho
  have hno := hK H L false p (fun _ _ => rfl) rfl
  refine pcall_has h rfl ?_
  simp only [l65_10, b65, f65]
  simp [-List.getD_eq_getElem?_getD, -Int.ofNat_toNat, -getElem?_pos, er65_0, er65_1, er65_2, er65_3, er65_4, er65_5, er65_6, er65_7, er65_8, er65_9, er65_11]
  refine w_RIs hi p x _ ?_
  simp only [hid_k]
  by_cases h1 : inN L.length x
  · rw [decide_eq_true h1]
    simp [-List.getD_eq_getElem?_getD, -Int.ofNat_toNat, -getElem?_pos, er65_0, er65_1, er65_2, er65_3, er65_4, er65_5, er65_6, er65_7, er65_8, er65_9, er65_11]
    refine w_RIs hi p y _ ?_
    simp only [hid_k]
    by_cases h2 : inN L.length y
    · rw [decide_eq_true h2]
      obtain ⟨a, rfl⟩ : ∃ a : Nat, x = (a : Int) := ⟨x.toNat, by have := h1.1; omega⟩
      obtain ⟨c, rfl⟩ : ∃ c : Nat, y = (c : Int) := ⟨y.toNat, by have := h2.1; omega⟩
      have ha : a < L.length := by have := h1.2; omega
      have hc : c < L.length := by have := h2.2; omega
      obtain ⟨b1, g1, oa, ca, _⟩ := Own.at ho ha
      obtain ⟨b2, g2, oc, cc, _⟩ := Own.at ho hc
      have za := cI_get ha
      have zc := cI_get hc
      have ga : L.getD a 0 = L[a] := by rw [List.getD_eq_getElem?_getD, List.getElem?_eq_getElem ha]; rfl
      have gc : L.getD c 0 = L[c] := by rw [List.getD_eq_getElem?_getD, List.getElem?_eq_getElem hc]; rfl
      by_cases e : L[a] = L[c]
      · have hno' := hno ⟨by symm; apply decide_eq_false; rintro ⟨_, _, h⟩; simp only [Int.toNat_natCast] at h; rw [ga, gc] at h; exact h e, fun _ => rfl, fun h => by cases h⟩
        simp [-List.getD_eq_getElem?_getD, -Int.ofNat_toNat, -getElem?_pos, er65_0, er65_1, er65_2, er65_3, er65_4, er65_5, er65_6, er65_7, er65_8, er65_9, er65_11, hb, oa, oc, ca, cc, za, zc, e, resK, resVs, resV, pack]
        exact hno'
      · have hyes := fun H' => hK H' (L.map fun z => if z = max L[a] L[c] then min L[a] L[c] else z) true
        have hj : JoinL L (L.map fun z => if z = max L[a] L[c] then min L[a] L[c] else z) (a : Int) (c : Int) true :=
          ⟨by symm; apply decide_eq_true; refine ⟨h1, h2, ?_⟩; simp only [Int.toNat_natCast]; rw [ga, gc]; exact e, (fun h => by cases h), fun _ => by simp only [Int.toNat_natCast, ga, gc]⟩
        have m1 := minV_i L[a] L[c]
        have m2 := maxV_i L[a] L[c]
        simp [-List.getD_eq_getElem?_getD, -Int.ofNat_toNat, -getElem?_pos, er65_0, er65_1, er65_2, er65_3, er65_4, er65_5, er65_6, er65_7, er65_8, er65_9, er65_11, hb, oa, oc, ca, cc, za, zc, e, foldV, m1, m2]
        generalize max L[a] L[c] = Y at *
        generalize min L[a] L[c] = X at *
        refine pc_loopI (fun m st => ∃ (i : Nat) (M : List Int) (p8 p9 : AV) (H' : Heap), i + m = L.length ∧ M.length = L.length ∧ (∀ j, M[j]? = if j < i then (L[j]?).map (fun z => if z = Y then X else z) else L[j]?) ∧ H'[q]? = some (.cells 0 false [o]) ∧ OwnI true (q + 1) H' o M ∧ (∀ k, k < q → H'[k]? = H[k]?) ∧ H'.length = H.length ∧
          st = ([.ptr q 0 0, .int .i64 a, .int .i64 c, .bool false, .int .i64 X, .int .i64 Y, .int .i64 i, .bool false, p8, p9], H')) L.length ⟨0, L, _, _, H, by simp, rfl, fun j => by simp, hb, ho, fun _ _ => rfl, rfl, rfl⟩ ?_
        rintro m st ⟨i, M, p8, p9, H', hi', hM, hMj, hb', ho', hk, hHl, rfl⟩
        have hl' := Own.len ho'
        by_cases hlt : i < L.length
        · have hltM : i < M.length := by omega
          have hlt' : (i : Int) < M.length := by omega
          have hiw := wrap1 hlt (by omega)
          obtain ⟨b3, g3, ob, cb, bb, pb, keep⟩ := Own.at ho' hltM
          have zb := cI_get hltM
          have hMi : M[i] = L[i] := by
            have := hMj i
            rw [if_neg (by omega), List.getElem?_eq_getElem hltM, List.getElem?_eq_getElem hlt] at this
            exact Option.some.inj this
          have hLi : L[i]? = some L[i] := List.getElem?_eq_getElem hlt
          generalize L[i] = z at *
          rw [hMi] at zb
          by_cases ez : z = Y
          · subst ez
            have hs : setAt (cI M) i [.int .i64 X] = cI (M.set i X) := by rw [setAt_one _ (by rw [cI_len]; omega), cI_set]
            have hcl : i + 1 ≤ (cI M).length := by rw [cI_len]; omega
            have hcl2 : i + 1 ≤ M.length := by omega
            have hcM := cI_len M
            have ho2 := keep (cI (M.set i X)) (by rw [cI_len, cI_len, List.length_set])
            simp [-List.getD_eq_getElem?_getD, -Int.ofNat_toNat, -getElem?_pos, er65_0, er65_1, er65_2, er65_3, er65_4, er65_5, er65_6, er65_7, er65_8, er65_9, er65_11, hb', hl', hlt', hltM, ob, cb, zb, hs, hcl, hcl2, hcM, hiw]
            refine next_mk (m - 1) (by omega) ⟨i + 1, M.set i X, _, _, _, by omega, by rw [List.length_set]; exact hM, fun j => ?_, ?_, ?_, fun k hk' => ?_, by rw [List.length_set]; exact hHl, rfl⟩
            · rw [List.getElem?_set]
              by_cases e1 : i = j
              · subst e1
                rw [if_pos rfl, if_pos hltM, if_pos (by omega), hLi]; simp
              · rw [if_neg e1, hMj j]
                by_cases e2 : j < i
                · rw [if_pos e2, if_pos (by omega)]
                · rw [if_neg e2, if_neg (by omega)]
            · rw [List.getElem?_set_ne (by omega)]; exact hb'
            · unfold OwnI; rw [List.length_set]; exact ho2
            · rw [List.getElem?_set_ne (by omega)]; exact hk k hk'
          · simp [-List.getD_eq_getElem?_getD, -Int.ofNat_toNat, -getElem?_pos, er65_0, er65_1, er65_2, er65_3, er65_4, er65_5, er65_6, er65_7, er65_8, er65_9, er65_11, hb', hl', hlt', hltM, ob, cb, zb, ez, hiw]
            refine next_mk (m - 1) (by omega) ⟨i + 1, M, _, _, _, by omega, hM, fun j => ?_, hb', ho', hk, hHl, rfl⟩
            rw [hMj j]
            by_cases e1 : i = j
            · subst e1
              rw [if_neg (by omega), if_pos (by omega), hLi]; simp [ez]
            · by_cases e2 : j < i
              · rw [if_pos e2, if_pos (by omega)]
              · rw [if_neg e2, if_neg (by omega)]
        · have hlt' : ¬ (i : Int) < M.length := by omega
          have hltM : ¬ i < M.length := by omega
          have hMe : M = L.map fun z => if z = Y then X else z := by
            refine List.ext_getElem? fun j => ?_
            rw [hMj j, List.getElem?_map]
            by_cases e2 : j < i
            · rw [if_pos e2]
            · rw [if_neg e2, List.getElem?_eq_none (by omega)]; rfl
          subst hMe
          have := hyes H' ⟨o, hb', ho'⟩ hk hHl hj
          simp [-List.getD_eq_getElem?_getD, -Int.ofNat_toNat, -getElem?_pos, er65_0, er65_1, er65_2, er65_3, er65_4, er65_5, er65_6, er65_7, er65_8, er65_9, er65_11, hb', hl', hlt', hltM, hlt, resK, resVs, resV, pack]
          exact this
    · have hno' := hno ⟨by symm; apply decide_eq_false; rintro ⟨_, h, _⟩; exact h2 h, fun _ => rfl, fun h => by cases h⟩
      rw [decide_eq_false h2]
      simp [-List.getD_eq_getElem?_getD, -Int.ofNat_toNat, -getElem?_pos, er65_0, er65_1, er65_2, er65_3, er65_4, er65_5, er65_6, er65_7, er65_8, er65_9, er65_11, resK, resVs, resV, pack]
      exact hno'
  · have hno' := hno ⟨by symm; apply decide_eq_false; rintro ⟨h, _, _⟩; exact h1 h, fun _ => rfl, fun h => by cases h⟩
    rw [decide_eq_false h1]
    simp [-List.getD_eq_getElem?_getD, -Int.ofNat_toNat, -getElem?_pos, er65_0, er65_1, er65_2, er65_3, er65_4, er65_5, er65_6, er65_7, er65_8, er65_9, er65_11, resK, resVs, resV, pack]
    exact hno'
/-- The class of i, told so far. -/
def lrowK (L : List Int) (i k : Nat) : List Int := ((List.range k).filter fun j => decide (i ≤ j ∧ L.getD j 0 = (i : Int))).map fun (j : Nat) => (j : Int)
def lrowsK (L : List Int) (i : Nat) : List (List Int) := ((List.range i).filter fun j => decide (L.getD j 0 = (j : Int))).map fun j => lrowK L j L.length
theorem lrowK_start (L : List Int) (i : Nat) : lrowK L i i = [] := by
  unfold lrowK
  rw [List.filter_eq_nil_iff.2 fun j hj => by simp at hj; simp; omega]; rfl
theorem lrowK_step (L : List Int) (i k : Nat) (h : i ≤ k) : lrowK L i (k + 1) = lrowK L i k ++ (if L.getD k 0 = (i : Int) then [(k : Int)] else []) := by
  simp only [lrowK, List.range_succ, List.filter_append, List.map_append]
  congr 1
  by_cases e : L.getD k 0 = (i : Int)
  · rw [if_pos e, List.filter_cons, if_pos (by simpa using ⟨h, e⟩)]; rfl
  · rw [if_neg e, List.filter_cons, if_neg (by simp only [decide_eq_true_eq]; exact fun h => e h.2)]; rfl
theorem lrowK_len (L : List Int) (i k : Nat) : (lrowK L i k).length ≤ k := by
  simp only [lrowK, List.length_map]
  exact Nat.le_trans (List.length_filter_le _ _) (by simp)
theorem lrowsK_step (L : List Int) (i : Nat) : lrowsK L (i + 1) = lrowsK L i ++ (if L.getD i 0 = (i : Int) then [lrowK L i L.length] else []) := by
  simp only [lrowsK, List.range_succ, List.filter_append, List.map_append]
  congr 1
  by_cases e : L.getD i 0 = (i : Int)
  · rw [if_pos e, List.filter_cons, if_pos (by simpa using e)]; rfl
  · rw [if_neg e, List.filter_cons, if_neg (by simpa using e)]; rfl
theorem lrowsK_len (L : List Int) (i : Nat) : (lrowsK L i).length ≤ i := by
  simp only [lrowsK, List.length_map]
  exact Nat.le_trans (List.length_filter_le _ _) (by simp)
set_option maxHeartbeats 2000000 in
theorem w_RClasses (h : Has A (φ 69) (f69 φ)) {H : Heap} {q : Nat} {L : List Int} (p : RP H q L) (hn : L.length ≤ 1000)
    (K : AV → Heap → Prop) (hK : ∀ v H', OwnR false H.length H' v (lrowsK L L.length) → (∀ k, k < H.length → H'[k]? = H[k]?) → K v H') : PCall A (φ 69) [.ptr q 0 0] H K := by
  obtain ⟨o, hb, ho⟩ := p
  have hl := Own.len ho
  have hq := lt_of_get hb
  refine pcall_has h rfl ?_
  simp only [l69_11, l69_14, b69, f69]
  simp [-List.getD_eq_getElem?_getD, -Int.ofNat_toNat, -getElem?_pos, er69_0, er69_1, er69_2, er69_3, er69_4, er69_5, er69_6, er69_7, er69_8, er69_9, er69_10, er69_12, er69_13, er69_15]
  refine pc_loopI (fun m st => ∃ (i : Nat) (out p4 p5 p6 p7 p8 p9 : AV) (H' : Heap), i + m = L.length ∧ OwnR false H.length H' out (lrowsK L i) ∧ out.one = true ∧ out.cells = [out] ∧ (∀ k, k < H.length → H'[k]? = H[k]?) ∧ H.length ≤ H'.length ∧
      st = ([.ptr q 0 0, .nils, out, .int .i64 i, p4, p5, p6, p7, p8, p9], H')) L.length ⟨0, _, _, _, _, _, _, _, _, by simp, ownR_empty _ _ _ _ _, rfl, rfl, fun k hk => List.getElem?_append_left hk, by simp, rfl⟩ ?_
  rintro m st ⟨i, out, p4, p5, p6, p7, p8, p9, H1, hi, hout, one1, cel1, hk1, hl1, rfl⟩
  by_cases hlt : i < L.length
  · have hlt' : (i : Int) < L.length := by omega
    have hiw := wrap1 hlt (by omega)
    have hb1 : H1[q]? = some (.cells 0 false [o]) := by rw [hk1 q hq]; exact hb
    have ho1 : OwnI true (q + 1) H1 o L := Own.keep ho fun b hb' hbv => hk1 b (Own.blk ho hbv).2
    obtain ⟨b1, g1, oa, ca, _⟩ := Own.at ho1 hlt
    have za := cI_get hlt
    have hgd : L.getD i 0 = L[i] := by rw [List.getD_eq_getElem?_getD, List.getElem?_eq_getElem hlt]; rfl
    have hstep := lrowsK_step L i
    rw [hgd] at hstep
    by_cases e : L[i] = (i : Int)
    · rw [if_pos e] at hstep
      simp [-List.getD_eq_getElem?_getD, -Int.ofNat_toNat, -getElem?_pos, er69_0, er69_1, er69_2, er69_3, er69_4, er69_5, er69_6, er69_7, er69_8, er69_9, er69_10, er69_12, er69_13, er69_15, hb1, hl, hlt', hlt, oa, ca, za, e]
      refine pc_loopI (fun m2 st => ∃ (k : Nat) (l p8 p9 : AV) (H2 : Heap), k + m2 = L.length ∧ i ≤ k ∧ OwnI false H1.length H2 l (lrowK L i k) ∧ (∀ j, j < H1.length → H2[j]? = H1[j]?) ∧ H1.length ≤ H2.length ∧
          st = ([.ptr q 0 0, .nils, out, .int .i64 i, l, .int .i64 k, .bool true, .bool false, p8, p9], H2)) (L.length - i) ⟨i, _, _, _, _, by omega, Nat.le_refl _, by rw [lrowK_start]; exact ownI_empty _ _ _ _ _, fun j hj => List.getElem?_append_left hj, by simp, rfl⟩ ?_
      rintro m2 st2 ⟨k, l, p8, p9, H2, hk, hik, hol, hk2, hl2, rfl⟩
      have hb2 : H2[q]? = some (.cells 0 false [o]) := by rw [hk2 q (by omega)]; exact hb1
      have hone : l.one = true := Own.one hol
      have hcel : l.cells = [l] := Own.cells hol
      by_cases hkl : k < L.length
      · have hkl' : (k : Int) < L.length := by omega
        have hkw := wrap1 hkl (by omega)
        have ho2 : OwnI true (q + 1) H2 o L := Own.keep ho1 fun b hb' hbv => hk2 b hb'
        obtain ⟨b2, g2, ob, cb, _⟩ := Own.at ho2 hkl
        have zb := cI_get hkl
        have hgk : L.getD k 0 = L[k] := by rw [List.getD_eq_getElem?_getD, List.getElem?_eq_getElem hkl]; rfl
        have hst2 := lrowK_step L i k hik
        rw [hgk] at hst2
        have hlk := lrowK_len L i k
        by_cases e2 : L[k] = (i : Int)
        · rw [if_pos e2] at hst2
          obtain ⟨o1, H3, x1, x2, x3, x4, _, _⟩ := OwnI.app1 hol (k : Int) hl2 (by omega)
          simp [-List.getD_eq_getElem?_getD, -Int.ofNat_toNat, -getElem?_pos, er69_0, er69_1, er69_2, er69_3, er69_4, er69_5, er69_6, er69_7, er69_8, er69_9, er69_10, er69_12, er69_13, er69_15, hb2, hl, hkl', hkl, ob, cb, zb, e2, x1, hkw]
          exact next_mk (m2 - 1) (by omega) ⟨k + 1, _, _, _, _, by omega, by omega, by rw [hst2]; exact x2, fun j hj => (x3 j hj).trans (hk2 j hj), by omega, rfl⟩
        · rw [if_neg e2, List.append_nil] at hst2
          simp [-List.getD_eq_getElem?_getD, -Int.ofNat_toNat, -getElem?_pos, er69_0, er69_1, er69_2, er69_3, er69_4, er69_5, er69_6, er69_7, er69_8, er69_9, er69_10, er69_12, er69_13, er69_15, hb2, hl, hkl', hkl, ob, cb, zb, e2, hkw]
          exact next_mk (m2 - 1) (by omega) ⟨k + 1, _, _, _, _, by omega, by omega, by rw [hst2]; exact hol, hk2, hl2, rfl⟩
      · have hkl' : ¬ (k : Int) < L.length := by omega
        have hke : k = L.length := by omega
        subst hke
        have hout2 := hout.keep (H' := H2) (fun b _ hb' => hk2 b hb') hl2
        have hlr := lrowsK_len L i
        obtain ⟨o3, H3, x1, x2, x3, x4, x5, x6⟩ := hout2.app1 (Own.vw hol) (fun b hbl => by
          obtain ⟨q1, q2⟩ := Own.blk hol hbl
          refine ⟨by omega, q2, fun e => ?_⟩
          obtain ⟨rs, w1, _⟩ := hout
          have := (w1.blk e).2
          omega) (by omega) (by omega)
        simp [-List.getD_eq_getElem?_getD, -Int.ofNat_toNat, -getElem?_pos, er69_0, er69_1, er69_2, er69_3, er69_4, er69_5, er69_6, er69_7, er69_8, er69_9, er69_10, er69_12, er69_13, er69_15, hb2, hl, x1, hone, hcel, hiw]
        refine ⟨Own.part hol, ?_⟩
        exact next_mk (m - 1) (by omega) ⟨i + 1, _, _, _, _, _, _, _, _, by omega, by rw [hstep]; exact x2, x5, x6, fun k hk => by rw [x3 k hk, hk2 k (by omega), hk1 k hk], by omega, rfl⟩
    · rw [if_neg e, List.append_nil] at hstep
      simp [-List.getD_eq_getElem?_getD, -Int.ofNat_toNat, -getElem?_pos, er69_0, er69_1, er69_2, er69_3, er69_4, er69_5, er69_6, er69_7, er69_8, er69_9, er69_10, er69_12, er69_13, er69_15, hb1, hl, hlt', hlt, oa, ca, za, e, hiw]
      exact next_mk (m - 1) (by omega) ⟨i + 1, _, _, _, _, _, _, _, _, by omega, by rw [hstep]; exact hout, one1, cel1, hk1, hl1, rfl⟩
  · have hlt' : ¬ (i : Int) < L.length := by omega
    have hb1 : H1[q]? = some (.cells 0 false [o]) := by rw [hk1 q hq]; exact hb
    have hie : i = L.length := by omega
    subst hie
    have := hK out H1 hout hk1
    simp [-List.getD_eq_getElem?_getD, -Int.ofNat_toNat, -getElem?_pos, er69_0, er69_1, er69_2, er69_3, er69_4, er69_5, er69_6, er69_7, er69_8, er69_9, er69_10, er69_12, er69_13, er69_15, hb1, hl, one1, cel1, resK, resVs, resV, pack]
    exact this
end Go.Ai.G
/- PartTells. -/
namespace Go.Ai.G
open Go.Ai
set_option maxRecDepth 100000
set_option linter.unusedSimpArgs false
set_option linter.unusedVariables false
variable {A : AProg} {φ : Nat → Nat}
attribute [local simp ↓] getD_z getD_s hid_k hid_o hid_q hid_v PO_nil PO_none PO_grd PD_nil PD_none PD_grd PDO_N PDO_X PDO_call PDO_calli PDO_callv PStep_N PStep_X PStep_call PStep_calli PC_skip PC_lab
  PC_ret PC_exit PC_reg PC_draw PC_seq PC_block PC_loop PC_scope PC_cond thenC_norm thenC_ret thenC_exit blockC_norm blockC_ret blockC_exit loopC_norm loopC_ret loopC_exit endR_ret
  endR_norm
attribute [local simp] gz PDX_free PDX_eq PStep_callv resK_none resK_t resK_tt KNO_val KNO_new KNO_ite KNO_map KXO_some KXO_ite KVA_t KVA_f KG_skip KG_tt KG_ff KG_tf KG_ft KB_true KB_false KNOD_val
  KNOD_new KNOD_ite n_mv n_pick n_bin n_eqB n_eqN n_eqS n_un n_conv n_fadd n_faddV n_fld1 n_fldN n_idx n_idxA n_idxV n_idxAV n_ext n_lenS n_lenS0 n_lenV n_lenT n_lenA n_min n_max
  n_build n_mkfn n_slc n_slc0 n_slcV n_slcA n_load1 n_loadN n_load1V n_loadNV n_alloc n_box n_bsl n_mksl n_nilcP n_nilcV n_nilcI n_nilcF x_store x_clear0 x_clear b_add b_sub b_mul
  b_eql b_neq b_lss b_leq b_gtr b_geq b_and16 unV ntouch gather hide unhide evalOpd applyOuts int_bne int_beq ite_bool ite_int one_bool cells_bool one_int cells_int one_str cells_str
  one_nilp cells_nilp one_ptr cells_ptr one_nils cells_nils one_sl cells_sl one_nilf cells_nilf one_fn cells_fn one_nili cells_nili one_mp cells_mp one_nilm cells_nilm one_iface
  cells_iface one_vs cells_vs one_vp cells_vp cells_agg Nat.testBit setAt_1 setAt_2 closeds_nil closeds_cons closed_bool closed_int closed_str closed_nilp closed_nils closed_nilm
  closed_nilf closed_nili closed_agg closed_tup closed_vs closed_vp closed_iface closed_fn closeds_cI closeds_cE viewA_closed viewR_closed AV.scal AV.scal0 fillA repA part_bool
  part_int part_str part_nilp part_ptr part_nils part_sl part_nilm part_mp part_nilf part_fn part_nili part_iface part_agg part_vs part_vp viewA_sl1 vaSl_cells wrap_0 wrap_1 wrap_2
  wrap_m1 set_last get_last
theorem er71_0 (φ : Nat → Nat) : r71_0 φ = [
  ⟨0, .N .mv, [.c (.bool false)], none, 0⟩] := Eq.trans rfl rfl
theorem er71_1 (φ : Nat → Nat) : r71_1 φ = [
  ⟨0, .calli true (φ 59), [], none, 0⟩,
  ⟨1, .N .mv, [.l 0], none, 0⟩] := Eq.trans rfl rfl
theorem er71_2 (φ : Nat → Nat) : r71_2 φ = [
  ⟨0, .N .mv, [.n 0], none, 0⟩,
  ⟨1, .call (φ 60), [.l 0], none, 0⟩,
  ⟨2, .N .mv, [.l 0], none, 0⟩] := Eq.trans rfl rfl
theorem er71_3 (φ : Nat → Nat) : r71_3 φ = [
  ⟨0, .N .mv, [.n 0], none, 0⟩,
  ⟨1, .call (φ 61), [.l 0], none, 0⟩,
  ⟨2, .N .mv, [.l 0], none, 0⟩] := Eq.trans rfl rfl
theorem er71_4 (φ : Nat → Nat) : r71_4 φ = [
  ⟨0, .N .mv, [.n 4], none, 0⟩,
  ⟨1, .N (.eqN 0 false), [.l 0, .c (.nilp)], none, 0⟩] := Eq.trans rfl rfl
theorem er71_5 (φ : Nat → Nat) : r71_5 φ = [
  ⟨0, .N .mv, [.c (.bool false)], none, 0⟩] := Eq.trans rfl rfl
theorem er71_6 (φ : Nat → Nat) : r71_6 φ = [
  ⟨0, .N .mv, [.c (.int .i64 0)], none, 0⟩] := Eq.trans rfl rfl
theorem er71_7 (φ : Nat → Nat) : r71_7 φ = [
  ⟨0, .N .mv, [.n 6], none, 0⟩,
  ⟨1, .N .mv, [.n 1], none, 0⟩,
  ⟨2, .N .lenS, [.l 0], none, 0⟩,
  ⟨3, .N (.bin .lss), [.l 2, .l 0], none, 0⟩,
  ⟨4, .N .mv, [.l 0], none, 0⟩,
  ⟨5, .N .mv, [.n 6], some (.l 0, true), 0⟩,
  ⟨6, .N (.bin .lss), [.l 0, .c (.int .i64 60)], some (.l 1, true), 0⟩,
  ⟨7, .N .pick, [.l 2, .l 0, .c (.bool false)], none, 0⟩] := Eq.trans rfl rfl
theorem er71_8 (φ : Nat → Nat) : r71_8 φ = [
  ⟨0, .N .mv, [.n 4], none, 0⟩,
  ⟨1, .N .mv, [.n 1], none, 0⟩,
  ⟨2, .N .mv, [.n 6], none, 0⟩,
  ⟨3, .N (.idx 2), [.l 1, .l 0], none, 6⟩,
  ⟨4, .N (.fadd 0), [.l 0], none, 14⟩,
  ⟨5, .N .load1, [.l 0], none, 30⟩,
  ⟨6, .N .mv, [.n 1], none, 0⟩,
  ⟨7, .N .mv, [.n 6], none, 0⟩,
  ⟨8, .N (.idx 2), [.l 1, .l 0], none, 192⟩,
  ⟨9, .N (.fadd 1), [.l 0], none, 448⟩,
  ⟨10, .N .load1, [.l 0], none, 960⟩,
  ⟨11, .call (φ 62), [.l 10, .l 5, .l 0], none, 2047⟩,
  ⟨12, .N .mv, [.l 0], none, 4095⟩] := Eq.trans rfl rfl
theorem er71_9 (φ : Nat → Nat) : r71_9 φ = [
  ⟨0, .N .mv, [.n 5], none, 0⟩,
  ⟨1, .N .mv, [.n 1], none, 0⟩,
  ⟨2, .N .mv, [.n 6], none, 0⟩,
  ⟨3, .N (.idx 2), [.l 1, .l 0], none, 6⟩,
  ⟨4, .N (.fadd 0), [.l 0], none, 14⟩,
  ⟨5, .N .load1, [.l 0], none, 30⟩,
  ⟨6, .N .mv, [.n 1], none, 0⟩,
  ⟨7, .N .mv, [.n 6], none, 0⟩,
  ⟨8, .N (.idx 2), [.l 1, .l 0], none, 192⟩,
  ⟨9, .N (.fadd 1), [.l 0], none, 448⟩,
  ⟨10, .N .load1, [.l 0], none, 960⟩,
  ⟨11, .call (φ 63), [.l 10, .l 5, .l 0], none, 2047⟩,
  ⟨12, .N .mv, [.l 0], none, 4095⟩] := Eq.trans rfl rfl
theorem er71_10 (φ : Nat → Nat) : r71_10 φ = [
  ⟨0, .N .mv, [.n 4], none, 0⟩,
  ⟨1, .N .mv, [.n 1], none, 0⟩,
  ⟨2, .N .mv, [.n 6], none, 0⟩,
  ⟨3, .N (.idx 2), [.l 1, .l 0], none, 6⟩,
  ⟨4, .N (.fadd 0), [.l 0], none, 14⟩,
  ⟨5, .N .load1, [.l 0], none, 30⟩,
  ⟨6, .N .mv, [.n 1], none, 0⟩,
  ⟨7, .N .mv, [.n 6], none, 0⟩,
  ⟨8, .N (.idx 2), [.l 1, .l 0], none, 192⟩,
  ⟨9, .N (.fadd 1), [.l 0], none, 448⟩,
  ⟨10, .N .load1, [.l 0], none, 960⟩,
  ⟨11, .call (φ 64), [.l 10, .l 5, .l 0], none, 2047⟩,
  ⟨12, .N .mv, [.l 0], none, 4095⟩] := Eq.trans rfl rfl
theorem er71_11 (φ : Nat → Nat) : r71_11 φ = [
  ⟨0, .N .mv, [.n 5], none, 0⟩,
  ⟨1, .N .mv, [.n 1], none, 0⟩,
  ⟨2, .N .mv, [.n 6], none, 0⟩,
  ⟨3, .N (.idx 2), [.l 1, .l 0], none, 6⟩,
  ⟨4, .N (.fadd 0), [.l 0], none, 14⟩,
  ⟨5, .N .load1, [.l 0], none, 30⟩,
  ⟨6, .N .mv, [.n 1], none, 0⟩,
  ⟨7, .N .mv, [.n 6], none, 0⟩,
  ⟨8, .N (.idx 2), [.l 1, .l 0], none, 192⟩,
  ⟨9, .N (.fadd 1), [.l 0], none, 448⟩,
  ⟨10, .N .load1, [.l 0], none, 960⟩,
  ⟨11, .call (φ 65), [.l 10, .l 5, .l 0], none, 2047⟩,
  ⟨12, .N .mv, [.l 0], none, 4095⟩] := Eq.trans rfl rfl
theorem er71_12 (φ : Nat → Nat) : r71_12 φ = [
  ⟨0, .N .mv, [.n 7], none, 0⟩,
  ⟨1, .N .mv, [.n 8], none, 0⟩,
  ⟨2, .N (.eqB true), [.l 1, .l 0], none, 3⟩,
  ⟨3, .N .mv, [.l 0], none, 7⟩,
  ⟨4, .N .mv, [.n 9], some (.l 0, false), 15⟩,
  ⟨5, .N .mv, [.n 10], some (.l 1, false), 15⟩,
  ⟨6, .N (.eqB true), [.l 1, .l 0], some (.l 2, false), 63⟩,
  ⟨7, .N .pick, [.l 3, .c (.bool true), .l 0], none, 127⟩,
  ⟨8, .N .mv, [.l 0], none, 255⟩,
  ⟨9, .N .mv, [.n 4], some (.l 0, false), 511⟩,
  ⟨10, .N .mv, [.n 1], some (.l 1, false), 511⟩,
  ⟨11, .N .mv, [.n 6], some (.l 2, false), 511⟩,
  ⟨12, .N (.idx 2), [.l 1, .l 0], some (.l 3, false), 3583⟩,
  ⟨13, .N (.fadd 1), [.l 0], some (.l 4, false), 7679⟩,
  ⟨14, .N .load1, [.l 0], some (.l 5, false), 15871⟩,
  ⟨15, .N .mv, [.n 1], some (.l 6, false), 511⟩,
  ⟨16, .N .mv, [.n 6], some (.l 7, false), 511⟩,
  ⟨17, .N (.idx 2), [.l 1, .l 0], some (.l 8, false), 98815⟩,
  ⟨18, .N (.fadd 0), [.l 0], some (.l 9, false), 229887⟩,
  ⟨19, .N .load1, [.l 0], some (.l 10, false), 492031⟩,
  ⟨21, .N .mv, [.n 5], some (.l 11, false), 511⟩,
  ⟨22, .N .mv, [.n 1], some (.l 12, false), 511⟩,
  ⟨23, .N .mv, [.n 6], some (.l 13, false), 511⟩,
  ⟨24, .N (.idx 2), [.l 1, .l 0], some (.l 14, false), 6291967⟩,
  ⟨25, .N (.fadd 1), [.l 0], some (.l 15, false), 14680575⟩,
  ⟨26, .N .load1, [.l 0], some (.l 16, false), 31457791⟩,
  ⟨27, .N .mv, [.n 1], some (.l 17, false), 511⟩,
  ⟨28, .N .mv, [.n 6], some (.l 18, false), 511⟩,
  ⟨29, .N (.idx 2), [.l 1, .l 0], some (.l 19, false), 201327103⟩,
  ⟨30, .N (.fadd 0), [.l 0], some (.l 20, false), 469762559⟩,
  ⟨31, .N .load1, [.l 0], some (.l 21, false), 1006633471⟩,
  ⟨20, .call (φ 62), [.l 21, .l 16, .l 11], some (.l 22, false), 1048575⟩,
  ⟨32, .call (φ 63), [.l 11, .l 6, .l 1], some (.l 23, false), 4294967295⟩,
  ⟨33, .N (.eqB true), [.l 1, .l 0], some (.l 24, false), 8589934591⟩,
  ⟨34, .N .pick, [.l 25, .c (.bool true), .l 0], none, 17179869183⟩,
  ⟨35, .N .mv, [.l 0], none, 34359738367⟩,
  ⟨36, .N .mv, [.n 4], some (.l 0, false), 68719476735⟩,
  ⟨38, .N .mv, [.n 5], some (.l 1, false), 68719476735⟩,
  ⟨37, .call (φ 66), [.l 1], some (.l 2, false), 137438953471⟩,
  ⟨39, .call (φ 67), [.l 1], some (.l 3, false), 549755813887⟩,
  ⟨40, .N (.bin .neq), [.l 1, .l 0], some (.l 4, false), 1099511627775⟩,
  ⟨41, .N .pick, [.l 5, .c (.bool true), .l 0], none, 2199023255551⟩] := Eq.trans rfl rfl
theorem er71_13 (φ : Nat → Nat) : r71_13 φ = [
  ⟨0, .N .mv, [.c (.bool false)], none, 0⟩] := Eq.trans rfl rfl
theorem er71_14 (φ : Nat → Nat) : r71_14 φ = [
  ⟨0, .N .mv, [.n 6], none, 0⟩,
  ⟨1, .N (.bin .add), [.l 0, .c (.int .i64 1)], none, 0⟩,
  ⟨2, .N .mv, [.l 0], none, 0⟩] := Eq.trans rfl rfl
theorem er71_16 (φ : Nat → Nat) : r71_16 φ = [
  ⟨0, .N .mv, [.n 3], none, 0⟩,
  ⟨1, .N .mv, [.l 0], none, 0⟩,
  ⟨2, .N .mv, [.n 4], some (.l 0, true), 0⟩,
  ⟨3, .call (φ 68), [.l 0], some (.l 1, true), 0⟩,
  ⟨4, .N .mv, [.n 5], some (.l 2, true), 0⟩,
  ⟨5, .call (φ 69), [.l 0], some (.l 3, true), 0⟩,
  ⟨6, .calli true (φ 70), [.l 2, .l 0], some (.l 4, true), 0⟩,
  ⟨7, .N .pick, [.l 5, .l 0, .c (.bool false)], none, 0⟩,
  ⟨8, .N .mv, [.l 0], none, 0⟩] := Eq.trans rfl rfl
/-- Each number has the least one of its class. -/
def LR (N : Nat) (r : Nat → Nat) (L : List Int) : Prop := L.length = N ∧ ∀ i, i < N → ∃ k : Nat, L.getD i 0 = (k : Int) ∧ k < N ∧ r k = r i ∧ ∀ j, j < N → r j = r i → k ≤ j
theorem lr_new (N : Nat) : LR N id (idL N) := by
  refine ⟨by simp [idL], fun i hi => ⟨i, ?_, hi, rfl, fun j _ h => ?_⟩⟩
  · simp [idL, List.getD_eq_getElem?_getD, hi]
  · have : j = i := h
    omega
theorem LR.same {N : Nat} {r : Nat → Nat} {L : List Int} (h : LR N r L) {i j : Nat} (hi : i < N) (hj : j < N) : L.getD i 0 = L.getD j 0 ↔ r i = r j := by
  obtain ⟨k, h1, h2, h3, h4⟩ := h.2 i hi
  obtain ⟨k', h1', h2', h3', h4'⟩ := h.2 j hj
  rw [h1, h1']
  constructor
  · intro e
    have : k = k' := by omega
    subst this
    rw [← h3, h3']
  · intro e
    have a1 := h4 k' h2' (by rw [h3', e])
    have a2 := h4' k h2 (by rw [h3, e])
    omega
theorem LR.sameR {N : Nat} {r : Nat → Nat} {L : List Int} (h : LR N r L) (a c : Int) : sameR L a c = sameP N r a c := by
  unfold Go.Ai.G.sameR sameP
  rw [decide_eq_decide, h.1]
  refine and_congr_right fun ha => and_congr_right fun hc => ?_
  exact h.same (by have := ha.1; have := ha.2; omega) (by have := hc.1; have := hc.2; omega)
theorem LR.join {N : Nat} {r r' : Nat → Nat} {L L' : List Int} {a c cnt cnt' : Int} {ok ok' : Bool} (h : LR N r L) (j : JoinR N r r' a c ok cnt cnt') (k : JoinL L L' a c ok') : ok = ok' ∧ LR N r' L' := by
  have he : ok = ok' := by
    rw [j.val, k.val, decide_eq_decide, h.1]
    refine and_congr_right fun ha => and_congr_right fun hc => not_congr ?_
    exact (h.same (by have := ha.1; have := ha.2; omega) (by have := hc.1; have := hc.2; omega)).symm
  refine ⟨he, ?_⟩
  subst he
  cases hok : ok with
  | false => rw [k.no hok, (j.no hok).1]; exact h
  | true =>
    have hv := j.val
    rw [hok] at hv
    obtain ⟨ha, hc, hne⟩ := of_decide_eq_true hv.symm
    obtain ⟨A, rfl⟩ : ∃ A : Nat, a = (A : Int) := ⟨a.toNat, by have := ha.1; omega⟩
    obtain ⟨C, rfl⟩ : ∃ C : Nat, c = (C : Int) := ⟨c.toNat, by have := hc.1; omega⟩
    have hA : A < N := by have := ha.2; omega
    have hC : C < N := by have := hc.2; omega
    simp only [Int.toNat_natCast] at hne
    have hL := k.yes hok
    obtain ⟨_, x, y, hxy, hor, hr'⟩ := j.yes hok
    simp only [Int.toNat_natCast] at hor hL
    obtain ⟨ka, a1, a2, a3, a4⟩ := h.2 A hA
    obtain ⟨kc, c1, c2, c3, c4⟩ := h.2 C hC
    rw [a1, c1] at hL
    have hkk : ka ≠ kc := fun e => hne (by rw [← a3, ← c3, e])
    refine ⟨by rw [hL, List.length_map]; exact h.1, fun i hi => ?_⟩
    obtain ⟨ki, i1, i2, i3, i4⟩ := h.2 i hi
    have hg : L'.getD i 0 = (fun z : Int => if z = max (ka : Int) kc then min (ka : Int) kc else z) (ki : Int) := by
      have hil : i < L.length := by rw [h.1]; exact hi
      rw [hL, List.getD_eq_getElem?_getD, List.getElem?_map]
      rw [List.getD_eq_getElem?_getD] at i1
      rw [List.getElem?_eq_getElem hil] at i1 ⊢
      simp only [Option.getD_some] at i1
      simp only [Option.map_some, Option.getD_some, i1]
    have hmin : ∀ M : Nat, (M = ka ∨ M = kc) → (M ≤ ka ∧ M ≤ kc) → (r i = r A ∨ r i = r C) → L'.getD i 0 = (M : Int) → ∃ k : Nat, L'.getD i 0 = (k : Int) ∧ k < N ∧ r' k = r' i ∧ ∀ j, j < N → r' j = r' i → k ≤ j := by
      intro M hM hle hri hgM
      have hx : ∀ t, (r t = r A ∨ r t = r C) → r' t = x := by
        intro t ht
        rw [hr']
        simp only
        rcases hor with ⟨h1, h2⟩ | ⟨h1, h2⟩ <;> rcases ht with ht | ht
        · rw [if_neg (by rw [ht, ← h1]; exact hxy), ht, h1]
        · rw [if_pos (by rw [ht, h2])]
        · rw [if_pos (by rw [ht, h2])]
        · rw [if_neg (by rw [ht, ← h1]; exact hxy), ht, h1]
      refine ⟨M, hgM, by rcases hM with h | h <;> omega, ?_, fun j hj hjr => ?_⟩
      · rw [hx i hri, hx M (by rcases hM with h | h <;> subst h; exact .inl a3; exact .inr c3)]
      · rw [hx i hri, hr'] at hjr
        simp only at hjr
        have hjj : r j = r A ∨ r j = r C := by
          by_cases e : r j = y
          · rcases hor with ⟨h1, h2⟩ | ⟨h1, h2⟩
            · right; rw [e, h2]
            · left; rw [e, h2]
          · rw [if_neg e] at hjr
            rcases hor with ⟨h1, h2⟩ | ⟨h1, h2⟩
            · left; rw [hjr, h1]
            · right; rw [hjr, h1]
        rcases hjj with e | e
        · have := a4 j hj e; omega
        · have := c4 j hj e; omega
    by_cases q1 : r i = r A
    · have : ki = ka := by
        have b1 := i4 ka a2 (by rw [a3, q1])
        have b2 := a4 ki i2 (by rw [i3, q1])
        omega
      subst this
      simp only at hg
      by_cases q : ki ≤ kc
      · rw [if_neg (by omega)] at hg
        exact hmin ki (.inl rfl) ⟨Nat.le_refl _, q⟩ (.inl q1) hg
      · rw [if_pos (by omega)] at hg
        exact hmin kc (.inr rfl) ⟨by omega, Nat.le_refl _⟩ (.inl q1) (by rw [hg]; omega)
    · by_cases q2 : r i = r C
      · have : ki = kc := by
          have b1 := i4 kc c2 (by rw [c3, q2])
          have b2 := c4 ki i2 (by rw [i3, q2])
          omega
        subst this
        simp only at hg
        by_cases q : ki ≤ ka
        · rw [if_neg (by omega)] at hg
          exact hmin ki (.inr rfl) ⟨q, Nat.le_refl _⟩ (.inr q2) hg
        · rw [if_pos (by omega)] at hg
          exact hmin ka (.inl rfl) ⟨Nat.le_refl _, by omega⟩ (.inr q2) (by rw [hg]; omega)
      · have n1 : ki ≠ ka := fun e => q1 (by rw [← i3, e, a3])
        have n2 : ki ≠ kc := fun e => q2 (by rw [← i3, e, c3])
        simp only at hg
        rw [if_neg (by omega)] at hg
        have hother : ∀ t, r t = r i → r' t = r i := by
          intro t ht
          rw [hr']
          simp only
          rw [if_neg (by rw [ht]; rcases hor with ⟨h1, h2⟩ | ⟨h1, h2⟩ <;> rw [h2] <;> assumption), ht]
        refine ⟨ki, hg, i2, by rw [hother ki i3, hother i rfl], fun j hj hjr => ?_⟩
        rw [hother i rfl, hr'] at hjr
        simp only at hjr
        refine i4 j hj ?_
        by_cases e : r j = y
        · rw [if_pos e] at hjr
          exfalso
          rcases hor with ⟨h1, h2⟩ | ⟨h1, h2⟩
          · exact q1 (by rw [← hjr, h1])
          · exact q2 (by rw [← hjr, h1])
        · rw [if_neg e] at hjr; exact hjr
theorem LR.least {N : Nat} {r : Nat → Nat} {L : List Int} (h : LR N r L) {i : Nat} (hi : i < N) : L.getD i 0 = ghd (gcl r N (r i)) := by
  obtain ⟨k, h1, h2, h3, h4⟩ := h.2 i hi
  rw [h1]
  have hm := ghd_mem (gcl_ne (r := r) hi)
  obtain ⟨j, j1, j2, j3⟩ := (gcl_mem _ _ _ _).1 hm
  have hk : (k : Int) ∈ gcl r N (r i) := (gcl_mem _ _ _ _).2 ⟨k, h2, by omega, rfl⟩
  have hs := gcl_sorted r N (r i)
  have hle : ghd (gcl r N (r i)) ≤ (k : Int) := by
    generalize gcl r N (r i) = l at *
    cases l with
    | nil => simp at hk
    | cons x t =>
      rw [List.pairwise_cons] at hs
      rcases List.mem_cons.1 hk with e | e
      · rw [e]; exact Int.le_refl _
      · have := hs.1 _ e; simp only [ghd, List.headD_cons]; omega
  have := h4 j j1 (by omega)
  omega
theorem LR.count {N : Nat} {r : Nat → Nat} {L : List Int} (h : LR N r L) (hlt : ∀ i, i < N → r i < N) (hrr : ∀ i, i < N → r (r i) = r i) : ((List.range L.length).filter fun i => decide (L.getD i 0 = (i : Int))).length = rootsN N r := by
  rw [roots_cls hlt hrr, h.1]
  unfold cls
  rw [List.length_map]
  congr 1
  refine List.filter_congr fun i hi => ?_
  rw [h.least (List.mem_range.1 hi)]
theorem LR.rows {N : Nat} {r : Nat → Nat} {L : List Int} (h : LR N r L) : lrowsK L L.length = cls r N := by
  unfold lrowsK cls
  rw [h.1]
  have e : (List.range N).filter (fun j => decide (L.getD j 0 = (j : Int))) = (List.range N).filter fun i => decide (ghd (gcl r N (r i)) = (i : Int)) := List.filter_congr fun i hi => by rw [h.least (List.mem_range.1 hi)]
  rw [e]
  refine List.map_congr_left fun i hi => ?_
  rw [← e, List.mem_filter] at hi
  have hiN := List.mem_range.1 hi.1
  have hLi := of_decide_eq_true hi.2
  unfold lrowK gcl
  congr 1
  refine List.filter_congr fun k hk => ?_
  have hkN := List.mem_range.1 hk
  rw [decide_eq_decide]
  constructor
  · rintro ⟨_, h2⟩
    have := (h.same hkN hiN).1 (by rw [h2, hLi])
    omega
  · intro h2
    have h3 : r k = r i := by omega
    have h4 := (h.same hkN hiN).2 h3
    rw [hLi] at h4
    refine ⟨?_, h4⟩
    obtain ⟨j, j1, j2, j3, j4⟩ := h.2 k hkN
    have := j4 k hkN rfl
    omega
theorem isRows_rv (rows : List (List Int)) : IsRows (rv false rows.length 1 (rows.map vI)) rows := by
  rw [rv_false]
  refine .inr ⟨_, rfl, by simp, ?_, fun j x zs hx hz => ?_⟩
  · rw [closeds_iff]
    intro i x hx
    rw [List.getElem?_map, Option.map_eq_some_iff] at hx
    obtain ⟨zs, _, rfl⟩ := hx
    exact closeds_cI zs
  · rw [List.getElem?_map, hz] at hx
    cases hx
    exact isI_v zs
structure ST4 (A : AProg) (φ : Nat → Nat) : Prop where
  p : Go.Ai.G.SP A φ
  rnew : Has A (φ 61) (f61 φ)
  ris : Has A (φ 82) (f82 φ)
  rsame : Has A (φ 63) (f63 φ)
  rjoin : Has A (φ 65) (f65 φ)
  rcount : Has A (φ 67) (f67 φ)
  rclasses : Has A (φ 69) (f69 φ)
set_option maxHeartbeats 8000000 in
theorem w_PartTells (h : Has A (φ 71) (f71 φ)) (hS : PVal A (φ 59) [] (.bool true)) (g : ST4 A φ) (n : Int) (v : AV) (es : List Ed) (hv : IsE v es) :
    PVal A (φ 71) [.int .i64 n, v] (.bool true) := by
  have hsh := hS.eq
  have hel := hv.len
  have hN1 : clampN n ≤ 1000 := by unfold clampN; omega
  refine pval_has h rfl ?_
  simp only [l71_15, b71, f71]
  simp [-List.getD_eq_getElem?_getD, -Int.ofNat_toNat, -getElem?_pos, er71_0, er71_1, er71_2, er71_3, er71_4, er71_5, er71_6, er71_7, er71_8, er71_9, er71_10, er71_11, er71_12, er71_13, er71_14, er71_16, hsh]
  refine w_PNew g.p.new n _ _ fun H1 p1 k1 l1 => ?_
  simp only [hid_k, List.length_nil, Nat.zero_add] at *
  simp [-List.getD_eq_getElem?_getD, -Int.ofNat_toNat, -getElem?_pos, er71_0, er71_1, er71_2, er71_3, er71_4, er71_5, er71_6, er71_7, er71_8, er71_9, er71_10, er71_11, er71_12, er71_13, er71_14, er71_16]
  refine w_RNew g.rnew n _ _ fun H2 q1 k2 l2 => ?_
  simp only [hid_k] at *
  rw [l1] at q1 k2 l2
  generalize clampN n = N at *
  have p2 : PS H2 2 0 1 N id N := p1.keep fun k hk => k2 k (by omega)
  simp [-List.getD_eq_getElem?_getD, -Int.ofNat_toNat, -getElem?_pos, er71_0, er71_1, er71_2, er71_3, er71_4, er71_5, er71_6, er71_7, er71_8, er71_9, er71_10, er71_11, er71_12, er71_13, er71_14, er71_16, l1, AV.isNilK]
  refine pc_loopI (fun m st => ∃ (i : Nat) (r : Nat → Nat) (cnt : Int) (L : List Int) (a7 a8 a9 a10 p12 p13 : AV) (H : Heap), i + m = 60 ∧ PS H 2 0 1 N r cnt ∧ cnt = (rootsN N r : Nat) ∧ RP H 3 L ∧ LR N r L ∧
    st = ([.int .i64 n, v, .bool false, .bool true, .ptr 2 0 0, .ptr 3 0 0, .int .i64 i, a7, a8, a9, a10, .bool false, p12, p13], H)) 60 ⟨0, id, _, idL N, _, _, _, _, _, _, H2, by simp, p2, by rw [roots_id], q1, lr_new N, rfl⟩ ?_
  rintro m st ⟨i, r, cnt, L, a7, a8, a9, a10, p12, p13, H, hi, hp, hcn, hq, hL, rfl⟩
  have hrl := roots_le N r
  have hLN := hL.1
  obtain ⟨f1, f2⟩ : (∀ i, i < N → r i < N) ∧ ∀ i, i < N → r (r i) = r i := by
    obtain ⟨up, sz, _, hr⟩ := hp
    exact rep_facts hr
  by_cases hlt : i < es.length ∧ i < 60
  · obtain ⟨hlt, h60⟩ := hlt
    have hlt' : (i : Int) < es.length := by omega
    have h60' : (i : Int) < 60 := by omega
    obtain ⟨i1, z1, z2, le1, t1⟩ := hv.at hlt
    have hw1 := wrap1 h60 (by omega)
    generalize es[i].1 = a at *
    generalize es[i].2 = c at *
    simp [-List.getD_eq_getElem?_getD, -Int.ofNat_toNat, -getElem?_pos, er71_0, er71_1, er71_2, er71_3, er71_4, er71_5, er71_6, er71_7, er71_8, er71_9, er71_10, er71_11, er71_12, er71_13, er71_14, er71_16, hel, hlt', hlt, h60, h60', i1, z1, z2, le1, t1]
    refine w_Same4 g.p.same g.p.is g.p.top hp a c _ fun H3 hp3 k3 l3 => ?_
    simp only [hid_k]
    have hq3 : RP H3 3 L := hq.keep fun k hk _ => k3 k (by omega)
    simp [-List.getD_eq_getElem?_getD, -Int.ofNat_toNat, -getElem?_pos, er71_0, er71_1, er71_2, er71_3, er71_4, er71_5, er71_6, er71_7, er71_8, er71_9, er71_10, er71_11, er71_12, er71_13, er71_14, er71_16, i1, z1, z2]
    refine w_RSame g.rsame g.ris hq3 a c _ ?_
    simp only [hid_k]
    rw [hL.sameR]
    simp [-List.getD_eq_getElem?_getD, -Int.ofNat_toNat, -getElem?_pos, er71_0, er71_1, er71_2, er71_3, er71_4, er71_5, er71_6, er71_7, er71_8, er71_9, er71_10, er71_11, er71_12, er71_13, er71_14, er71_16, i1, z1, z2]
    refine w_Join g.p.join g.p.is g.p.top hp3 (by omega) a c _ fun H4 r' cnt' ok hp4 k4 l4 j => ?_
    simp only [hid_k]
    have hq4 : RP H4 3 L := hq3.keep fun k hk _ => k4 k (by omega) (by omega) (by omega)
    simp [-List.getD_eq_getElem?_getD, -Int.ofNat_toNat, -getElem?_pos, er71_0, er71_1, er71_2, er71_3, er71_4, er71_5, er71_6, er71_7, er71_8, er71_9, er71_10, er71_11, er71_12, er71_13, er71_14, er71_16, i1, z1, z2]
    refine w_RJoin g.rjoin g.ris hq4 (by omega) a c _ fun H5 L' ok' hq5 k5 l5 jl => ?_
    simp only [hid_k]
    obtain ⟨rfl, hL'⟩ := hL.join j jl
    have hp5 : PS H5 2 0 1 N r' cnt' := hp4.keep fun k hk => k5 k (by omega)
    have hc2 := roots_step f1 f2 j hcn
    simp [-List.getD_eq_getElem?_getD, -Int.ofNat_toNat, -getElem?_pos, er71_0, er71_1, er71_2, er71_3, er71_4, er71_5, er71_6, er71_7, er71_8, er71_9, er71_10, er71_11, er71_12, er71_13, er71_14, er71_16, i1, z1, z2]
    refine w_Same4 g.p.same g.p.is g.p.top hp5 c a _ fun H6 hp6 k6 l6 => ?_
    simp only [hid_k]
    have hq6 : RP H6 3 L' := hq5.keep fun k hk _ => k6 k (by omega)
    simp [-List.getD_eq_getElem?_getD, -Int.ofNat_toNat, -getElem?_pos, er71_0, er71_1, er71_2, er71_3, er71_4, er71_5, er71_6, er71_7, er71_8, er71_9, er71_10, er71_11, er71_12, er71_13, er71_14, er71_16, i1, z1, z2]
    refine w_RSame g.rsame g.ris hq6 c a _ ?_
    simp only [hid_k]
    rw [hL'.sameR]
    simp [-List.getD_eq_getElem?_getD, -Int.ofNat_toNat, -getElem?_pos, er71_0, er71_1, er71_2, er71_3, er71_4, er71_5, er71_6, er71_7, er71_8, er71_9, er71_10, er71_11, er71_12, er71_13, er71_14, er71_16, i1, z1, z2]
    refine w_Count g.p.count hp6 _ ?_
    simp only [hid_k]
    simp [-List.getD_eq_getElem?_getD, -Int.ofNat_toNat, -getElem?_pos, er71_0, er71_1, er71_2, er71_3, er71_4, er71_5, er71_6, er71_7, er71_8, er71_9, er71_10, er71_11, er71_12, er71_13, er71_14, er71_16, i1, z1, z2]
    refine w_RCount g.rcount hq6 (by have := hL'.1; omega) _ ?_
    simp only [hid_k]
    obtain ⟨f1', f2'⟩ : (∀ i, i < N → r' i < N) ∧ ∀ i, i < N → r' (r' i) = r' i := by
      obtain ⟨up, sz, _, hr⟩ := hp6
      exact rep_facts hr
    rw [hL'.count f1' f2', ← hc2]
    simp [-List.getD_eq_getElem?_getD, -Int.ofNat_toNat, -getElem?_pos, er71_0, er71_1, er71_2, er71_3, er71_4, er71_5, er71_6, er71_7, er71_8, er71_9, er71_10, er71_11, er71_12, er71_13, er71_14, er71_16, i1, z1, z2, hw1]
    exact next_mk (m - 1) (by omega) ⟨i + 1, r', cnt', L', _, _, _, _, _, _, H6, by omega, hp6, hc2, hq6, hL', rfl⟩
  · obtain ⟨rows, hrows⟩ : ∃ rows, cls r N = rows := ⟨_, rfl⟩
    obtain ⟨y1, y2⟩ := cls_len (N := N) (r := r)
    rw [hrows] at y1 y2
    have cR := (g.p.rows _ _ _ _ (isRows_v rows) (isRows_rv rows) (by omega) (fun l hl => by have := y2 l hl; omega)).eq
    rw [decide_eq_true rfl] at cR
    have c1 := (isRows_v rows).closed
    have o1 := (isRows_v rows).one
    have hLr := hL.rows
    rw [hrows] at hLr
    have hend : (¬ ((i : Int) < es.length) ∧ ¬ i < es.length) ∨ ((i : Int) < es.length ∧ i < es.length ∧ ¬ (i : Int) < 60 ∧ ¬ i < 60) := by omega
    rcases hend with q | q <;>
    · simp [-List.getD_eq_getElem?_getD, -Int.ofNat_toNat, -getElem?_pos, er71_0, er71_1, er71_2, er71_3, er71_4, er71_5, er71_6, er71_7, er71_8, er71_9, er71_10, er71_11, er71_12, er71_13, er71_14, er71_16, hel, q]
      refine w_Classes g.p.classes hp (by omega) _ fun H3 hp3 k3 l3 => ?_
      simp only [hid_k]
      rw [hrows]
      simp [-List.getD_eq_getElem?_getD, -Int.ofNat_toNat, -getElem?_pos, er71_0, er71_1, er71_2, er71_3, er71_4, er71_5, er71_6, er71_7, er71_8, er71_9, er71_10, er71_11, er71_12, er71_13, er71_14, er71_16]
      refine w_RClasses g.rclasses (hq.keep fun k hk _ => k3 k (by omega)) (by omega) _ fun u H4 hu k4 => ?_
      simp only [hid_k]
      rw [hLr] at hu
      obtain ⟨bs, hs⟩ := hu.vwR.sees
      have hva := sees_a2 (sees_closed c1) hs
      obtain ⟨rs, hown, _⟩ := hu
      have o2 := hown.one
      have e2 := hown.cells
      simp [-List.getD_eq_getElem?_getD, -Int.ofNat_toNat, -getElem?_pos, er71_0, er71_1, er71_2, er71_3, er71_4, er71_5, er71_6, er71_7, er71_8, er71_9, er71_10, er71_11, er71_12, er71_13, er71_14, er71_16, hva, cR, o1, o2, e2, resK, resVs, resV, pack]
end Go.Ai.G
