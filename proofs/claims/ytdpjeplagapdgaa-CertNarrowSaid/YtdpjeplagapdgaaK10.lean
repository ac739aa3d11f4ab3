/- A part of what the law leans on: the abstract machine, the contracts, the rows. -/
import Derived.Test.YtdpjeplagapdgaaK9
import Derived.Test.YtdpjeplagapdgaaK6
import Derived.Test.YtdpjeplagapdgaaK8
/- Rows of cells of k numbers; ref22: PutTrees, PutCuts. -/
namespace Go.Ai.G
open Go.Ai
set_option maxRecDepth 100000
set_option linter.unusedSimpArgs false
set_option linter.unusedVariables false
variable {A : AProg} {φ : Nat → Nat}
attribute [local simp ↓] getD_z getD_s hid_k hid_o hid_q hid_v PO_nil PO_none PO_grd PD_nil PD_none PD_grd PDO_N PDO_X PDO_call PDO_calli PDO_callv PSX_N PSX_X PSX_call PSX_calli PSX_callv PSX_inv
  PSX_callp PSX_panic PDO_inv PStep_inv thenC_pan blockC_pan loopC_pan endX_ret endX_norm endX_pan PStep_N PStep_X PStep_call PStep_calli PC_skip PC_lab PC_ret PC_exit PC_reg PC_draw
  PC_seq PC_block PC_loop PC_scope PC_cond thenC_norm thenC_ret thenC_exit blockC_norm blockC_ret blockC_exit loopC_norm loopC_ret loopC_exit endR_ret endR_norm
attribute [local simp] gz PDX_free PDX_eq KI_some n_mki n_tas0 n_tasf PStep_callv resK_none resK_t resK_tt KNO_val KNO_new KNO_ite KNO_map KXO_some KXO_ite KVA_t KVA_f KG_skip KG_tt KG_ff KG_tf KG_ft
  KB_true KB_false KNOD_val KNOD_new KNOD_ite n_mv n_pick n_bin n_eqB n_eqN n_eqS n_un n_conv n_fadd n_faddV n_fld1 n_fldN n_idx n_idxA n_idxV n_idxAV n_ext n_lenS n_lenS0 n_lenV
  n_lenT n_lenA n_min n_max n_build n_mkfn n_slc n_slc0 n_slcV n_slcA n_load1 n_loadN n_load1V n_loadNV n_alloc n_box n_bsl n_mksl n_nilcP n_nilcV n_nilcI n_nilcF x_store x_clear0
  x_clear b_add b_sub b_mul b_eql b_neq b_lss b_leq b_gtr b_geq b_and16 unV ntouch gather hide unhide evalOpd applyOuts int_bne int_beq ite_bool ite_int one_bool cells_bool one_int
  cells_int one_str cells_str one_nilp cells_nilp one_ptr cells_ptr one_nils cells_nils one_sl cells_sl one_nilf cells_nilf one_fn cells_fn one_nili cells_nili one_mp cells_mp
  one_nilm cells_nilm one_iface cells_iface one_vs cells_vs one_vp cells_vp cells_agg Nat.testBit setAt_1 setAt_2 closeds_nil closeds_cons closed_bool closed_int closed_str
  closed_nilp closed_nils closed_nilm closed_nilf closed_nili closed_agg closed_tup closed_vs closed_vp closed_iface closed_fn closeds_cI closeds_cE viewA_closed viewR_closed AV.scal
  AV.scal0 fillA repA part_bool part_int part_str part_nilp part_ptr part_nils part_sl part_nilm part_mp part_nilf part_fn part_nili part_iface part_agg part_vs part_vp viewA_sl1
  vaSl_cells wrap_0 wrap_1 wrap_2 wrap_m1 set_last get_last
theorem er108_0 (φ : Nat → Nat) : r108_0 φ = [
  ⟨0, .N .mv, [.c (.nils)], none, 0⟩] := Eq.trans rfl rfl
theorem er108_1 (φ : Nat → Nat) : r108_1 φ = [
  ⟨0, .N .mv, [.n 0], none, 0⟩,
  ⟨1, .N .lenS, [.l 0], none, 0⟩,
  ⟨2, .N (.bsl [.int .i64 0] 1 1 [(0, 1)]), [.l 0], none, 0⟩,
  ⟨3, .N .mv, [.l 0], none, 0⟩] := Eq.trans rfl rfl
theorem er108_2 (φ : Nat → Nat) : r108_2 φ = [
  ⟨0, .N .mv, [.c (.int .i64 0)], none, 0⟩] := Eq.trans rfl rfl
theorem er108_3 (φ : Nat → Nat) : r108_3 φ = [
  ⟨0, .N .mv, [.n 3], none, 0⟩,
  ⟨1, .N .mv, [.n 0], none, 0⟩,
  ⟨2, .N .lenS, [.l 0], none, 0⟩,
  ⟨3, .N (.bin .lss), [.l 2, .l 0], none, 0⟩] := Eq.trans rfl rfl
theorem er108_4 (φ : Nat → Nat) : r108_4 φ = [
  ⟨0, .N .mv, [.n 2], none, 0⟩,
  ⟨1, .N .mv, [.n 0], none, 0⟩,
  ⟨2, .N .mv, [.n 3], none, 0⟩,
  ⟨3, .N (.idx 1), [.l 1, .l 0], none, 0⟩,
  ⟨4, .N .load1, [.l 0], none, 0⟩,
  ⟨5, .N .lenS, [.l 0], none, 0⟩,
  ⟨6, .N (.bsl [.int .i64 0] 1 1 [(0, 1)]), [.l 0], none, 0⟩,
  ⟨7, .X (.app 1 8), [.l 6, .l 0], none, 0⟩,
  ⟨8, .N .mv, [.l 0], none, 0⟩] := Eq.trans rfl rfl
theorem er108_5 (φ : Nat → Nat) : r108_5 φ = [
  ⟨0, .N .mv, [.c (.int .i64 0)], none, 0⟩] := Eq.trans rfl rfl
theorem er108_6 (φ : Nat → Nat) : r108_6 φ = [
  ⟨0, .N .mv, [.n 4], none, 0⟩,
  ⟨1, .N .mv, [.n 0], none, 0⟩,
  ⟨2, .N .mv, [.n 3], none, 0⟩,
  ⟨3, .N (.idx 1), [.l 1, .l 0], none, 0⟩,
  ⟨4, .N .load1, [.l 0], none, 0⟩,
  ⟨5, .N .lenS, [.l 0], none, 0⟩,
  ⟨6, .N (.bin .lss), [.l 5, .l 0], none, 0⟩] := Eq.trans rfl rfl
theorem er108_7 (φ : Nat → Nat) : r108_7 φ = [
  ⟨0, .N .mv, [.n 0], none, 0⟩,
  ⟨1, .N .mv, [.n 3], none, 0⟩,
  ⟨2, .N (.idx 1), [.l 1, .l 0], none, 0⟩,
  ⟨3, .N .load1, [.l 0], none, 0⟩,
  ⟨4, .N .mv, [.n 4], none, 0⟩,
  ⟨5, .N (.idx 3), [.l 1, .l 0], none, 0⟩,
  ⟨6, .N (.loadN 3), [.l 0], none, 0⟩,
  ⟨7, .N (.alloc [.int .i64 0, .int .i64 0, .int .i64 0]), [], none, 0⟩,
  ⟨8, .X (.store 3), [.l 0, .l 1], none, 0⟩] := Eq.trans rfl rfl
theorem er108_8 (φ : Nat → Nat) : r108_8 φ = [
  ⟨0, .N .mv, [.n 2], none, 0⟩,
  ⟨1, .N (.fadd 0), [.n 5], none, 0⟩,
  ⟨2, .N .load1, [.l 0], none, 0⟩,
  ⟨3, .N (.fadd 1), [.n 5], none, 0⟩,
  ⟨4, .N .load1, [.l 0], none, 0⟩,
  ⟨5, .N (.fadd 2), [.n 5], none, 0⟩,
  ⟨6, .N .load1, [.l 0], none, 0⟩,
  ⟨7, .N (.bsl [.int .i64 0] 3 1 [(0, 1), (1, 1), (2, 1)]), [.l 4, .l 2, .l 0], none, 0⟩,
  ⟨8, .X (.app 1 8), [.l 7, .l 0], none, 0⟩,
  ⟨9, .N .mv, [.l 0], none, 0⟩] := Eq.trans rfl rfl
theorem er108_9 (φ : Nat → Nat) : r108_9 φ = [
  ⟨0, .N .mv, [.n 4], none, 0⟩,
  ⟨1, .N (.bin .add), [.l 0, .c (.int .i64 1)], none, 0⟩,
  ⟨2, .N .mv, [.l 0], none, 0⟩] := Eq.trans rfl rfl
theorem er108_11 (φ : Nat → Nat) : r108_11 φ = [
  ⟨0, .N .mv, [.n 3], none, 0⟩,
  ⟨1, .N (.bin .add), [.l 0, .c (.int .i64 1)], none, 0⟩,
  ⟨2, .N .mv, [.l 0], none, 0⟩] := Eq.trans rfl rfl
theorem er108_13 (φ : Nat → Nat) : r108_13 φ = [
  ⟨0, .N .mv, [.n 2], none, 0⟩,
  ⟨1, .N .mv, [.l 0], none, 0⟩] := Eq.trans rfl rfl
theorem er109_0 (φ : Nat → Nat) : r109_0 φ = [
  ⟨0, .N .mv, [.c (.nils)], none, 0⟩] := Eq.trans rfl rfl
theorem er109_1 (φ : Nat → Nat) : r109_1 φ = [
  ⟨0, .N .mv, [.n 0], none, 0⟩,
  ⟨1, .N .lenS, [.l 0], none, 0⟩,
  ⟨2, .N (.bsl [.int .i64 0] 1 1 [(0, 1)]), [.l 0], none, 0⟩,
  ⟨3, .N .mv, [.l 0], none, 0⟩] := Eq.trans rfl rfl
theorem er109_2 (φ : Nat → Nat) : r109_2 φ = [
  ⟨0, .N .mv, [.c (.int .i64 0)], none, 0⟩] := Eq.trans rfl rfl
theorem er109_3 (φ : Nat → Nat) : r109_3 φ = [
  ⟨0, .N .mv, [.n 3], none, 0⟩,
  ⟨1, .N .mv, [.n 0], none, 0⟩,
  ⟨2, .N .lenS, [.l 0], none, 0⟩,
  ⟨3, .N (.bin .lss), [.l 2, .l 0], none, 0⟩] := Eq.trans rfl rfl
theorem er109_4 (φ : Nat → Nat) : r109_4 φ = [
  ⟨0, .N .mv, [.n 0], none, 0⟩,
  ⟨1, .N .mv, [.n 3], none, 0⟩,
  ⟨2, .N (.idx 6), [.l 1, .l 0], none, 0⟩,
  ⟨3, .N (.loadN 6), [.l 0], none, 0⟩,
  ⟨4, .N (.alloc [.int .i64 0, .int .i64 0, .int .i64 0, .int .i64 0, .int .i64 0, .int .i64 0]), [], none, 0⟩,
  ⟨5, .X (.store 6), [.l 0, .l 1], none, 0⟩] := Eq.trans rfl rfl
theorem er109_5 (φ : Nat → Nat) : r109_5 φ = [
  ⟨0, .N .mv, [.n 2], none, 0⟩,
  ⟨1, .N (.fadd 0), [.n 4], none, 0⟩,
  ⟨2, .N .load1, [.l 0], none, 0⟩,
  ⟨3, .N (.fadd 1), [.n 4], none, 0⟩,
  ⟨4, .N .load1, [.l 0], none, 0⟩,
  ⟨5, .N (.fadd 2), [.n 4], none, 0⟩,
  ⟨6, .N .load1, [.l 0], none, 0⟩,
  ⟨7, .N (.fadd 3), [.n 4], none, 0⟩,
  ⟨8, .N .load1, [.l 0], none, 0⟩,
  ⟨9, .N (.fadd 4), [.n 4], none, 0⟩,
  ⟨10, .N .load1, [.l 0], none, 0⟩,
  ⟨11, .N (.fadd 5), [.n 4], none, 0⟩,
  ⟨12, .N .load1, [.l 0], none, 0⟩,
  ⟨13, .N (.bsl [.int .i64 0] 6 1 [(0, 1), (1, 1), (2, 1), (3, 1), (4, 1), (5, 1)]), [.l 10, .l 8, .l 6, .l 4, .l 2, .l 0], none, 0⟩,
  ⟨14, .X (.app 1 8), [.l 13, .l 0], none, 0⟩,
  ⟨15, .N .mv, [.l 0], none, 0⟩] := Eq.trans rfl rfl
theorem er109_6 (φ : Nat → Nat) : r109_6 φ = [
  ⟨0, .N .mv, [.n 3], none, 0⟩,
  ⟨1, .N (.bin .add), [.l 0, .c (.int .i64 1)], none, 0⟩,
  ⟨2, .N .mv, [.l 0], none, 0⟩] := Eq.trans rfl rfl
theorem er109_8 (φ : Nat → Nat) : r109_8 φ = [
  ⟨0, .N .mv, [.n 2], none, 0⟩,
  ⟨1, .N .mv, [.l 0], none, 0⟩] := Eq.trans rfl rfl
/-- A row, as a value, of things of k numbers each. -/
def IsN (k : Nat) (v : AV) (xs : List (List Int)) : Prop := (∀ x ∈ xs, x.length = k) ∧ ((v = .nils ∧ xs = []) ∨ v = .vs xs.length k (cI xs.flatten))
section
variable {k : Nat} {v : AV} {xs : List (List Int)}
theorem IsN.one (h : IsN k v xs) : v.one = true := by rcases h.2 with ⟨rfl, _⟩ | rfl <;> rfl
theorem IsN.cells (h : IsN k v xs) : v.cells = [v] := by rcases h.2 with ⟨rfl, _⟩ | rfl <;> rfl
theorem IsN.part (h : IsN k v xs) : v.part = true := by rcases h.2 with ⟨rfl, _⟩ | rfl <;> rfl
theorem IsN.closed (h : IsN k v xs) : v.closed = true := by
  rcases h.2 with ⟨rfl, _⟩ | rfl
  · rfl
  · rw [closed_vs]; exact closeds_cI _
theorem IsN.len (h : IsN k v xs) (rd : Nat → Option Ob) : nstep .lenS [v] rd = some (.val (.int .i64 xs.length)) := by
  rcases h.2 with ⟨rfl, rfl⟩ | rfl <;> rfl
theorem IsN.at (h : IsN k v xs) (hk : 0 < k) {i : Nat} (hi : i < xs.length) : (∀ (q : IntKind) rd, nstep (.idx k) [v, .int q (i : Int)] rd = some (.val (.vp (cI xs.flatten) (i * k)))) ∧ (∀ rd, nstep (.loadN k) [.vp (cI xs.flatten) (i * k)] rd = some (.val (.agg (cI xs[i])))) := by
  have hc := rC_at hk hi h.1
  refine ⟨fun q rd => ?_, hc.2⟩
  rcases h.2 with ⟨rfl, rfl⟩ | rfl
  · simp at hi
  · have := hc.1 q rd
    have h0 : ¬ xs.length = 0 := by omega
    simp only [rC, rv, h0, and_false, if_false] at this
    exact this
theorem flat_take (hx : ∀ x ∈ xs, x.length = k) (m : Nat) : (xs.take m).flatten = xs.flatten.take (m * k) := by
  induction xs generalizing m with
  | nil => simp
  | cons x xs ih =>
    cases m with
    | zero => simp
    | succ m =>
      have h1 : x.length = k := hx x List.mem_cons_self
      rw [List.take_succ_cons, List.flatten_cons, List.flatten_cons, ih (fun y hy => hx y (List.mem_cons_of_mem _ hy)) m, List.take_append]
      rw [List.take_of_length_le (l := x) (by rw [h1, Nat.add_mul]; omega), h1, show (m + 1) * k - k = m * k by rw [Nat.add_mul]; omega]
theorem IsN.take (h : IsN k v xs) {m : Nat} (hm : m ≤ xs.length) : ∃ v', (∀ (q : IntKind) rd, nstep (.slc k false true false) [v, .int q (m : Int)] rd = some (.val v')) ∧ IsN k v' (xs.take m) := by
  have hx' : ∀ x ∈ xs.take m, x.length = k := fun x hx => h.1 x (List.mem_of_mem_take hx)
  rcases h.2 with ⟨rfl, rfl⟩ | rfl
  · have : m = 0 := by simpa using hm
    subst this
    exact ⟨.nils, fun q rd => by rw [n_slc0]; rfl, by simp, .inl ⟨rfl, rfl⟩⟩
  · have hl : (xs.take m).length = m := by rw [List.length_take]; omega
    refine ⟨.vs (xs.take m).length k (cI (xs.take m).flatten), fun q rd => ?_, hx', .inr rfl⟩
    rw [n_slcV]
    have e : bounds3 xs.length xs.length false true false [.int q (m : Int)] = some (0, m, xs.length) := by
      simp [bounds3, intArg]; omega
    rw [e]
    simp only [Option.map_some, Bool.false_eq_true, false_and, if_false, Nat.zero_mul, List.drop_zero, Nat.sub_zero]
    rw [hl, flat_take h.1, cI_take]
end
/-- Rows of such rows. -/
def IsT (v : AV) (ts : List (List (List Int))) : Prop := (v = .nils ∧ ts = []) ∨ ∃ l : List AV, v = .vs ts.length 1 l ∧ l.length = ts.length ∧ AV.closeds l = true ∧ ∀ (j : Nat) x t, l[j]? = some x → ts[j]? = some t → IsN 3 x t
theorem IsT.len {v : AV} {ts : List (List (List Int))} (h : IsT v ts) (rd : Nat → Option Ob) : nstep .lenS [v] rd = some (.val (.int .i64 ts.length)) := by
  rcases h with ⟨rfl, rfl⟩ | ⟨l, rfl, _⟩ <;> rfl
theorem IsT.one {v : AV} {ts : List (List (List Int))} (h : IsT v ts) : v.one = true := by
  rcases h with ⟨rfl, rfl⟩ | ⟨l, rfl, _⟩ <;> rfl
theorem IsT.closed {v : AV} {ts : List (List (List Int))} (h : IsT v ts) : v.closed = true := by
  rcases h with ⟨rfl, _⟩ | ⟨l, rfl, _, hc, _⟩
  · rfl
  · exact hc
theorem IsT.at {v : AV} {ts : List (List (List Int))} (h : IsT v ts) {i : Nat} (hi : i < ts.length) : ∃ l x, (∀ (k : IntKind) rd, nstep (.idx 1) [v, .int k (i : Int)] rd = some (.val (.vp l i))) ∧ l[i]? = some x ∧ IsN 3 x ts[i] := by
  rcases h with ⟨rfl, rfl⟩ | ⟨l, rfl, hl, _, hx⟩
  · simp at hi
  · have hil : i < l.length := by omega
    refine ⟨l, l[i], fun k rd => ?_, List.getElem?_eq_getElem hil, hx i _ _ (List.getElem?_eq_getElem hil) (List.getElem?_eq_getElem hi)⟩
    rw [n_idxV, if_pos ⟨rfl, by omega, by omega, by omega⟩]; simp
theorem isT_rv (nl : Bool) {vs : List AV} {ts : List (List (List Int))} (hl : vs.length = ts.length) (h : ∀ (j : Nat) x t, vs[j]? = some x → ts[j]? = some t → IsN 3 x t) : IsT (rv nl ts.length 1 vs) ts := by
  have hc : AV.closeds vs = true := by
    rw [closeds_iff]
    intro i x hx
    have hi := (List.getElem?_eq_some_iff.1 hx).1
    exact (h i x _ hx (List.getElem?_eq_getElem (by omega))).closed
  unfold rv
  split
  · rename_i h0
    exact .inl ⟨rfl, List.length_eq_zero_iff.1 h0.2⟩
  · exact .inr ⟨vs, rfl, hl, hc, h⟩
set_option maxHeartbeats 2000000 in
theorem w_PutCuts (h : Has A (φ 109) (f109 φ)) {v : AV} {c : List (List Int)} (hv : IsN 6 v c) (hn : c.length < 1000000) : PVal A (φ 109) [v] (vI ((c.length : Int) :: c.flatten)) := by
  have l1 := hv.len
  have hat := fun {i : Nat} (hi : i < c.length) => hv.at (by omega) hi
  have hfl := flat_len hv.1
  refine pval_has h rfl ?_
  simp only [l109_7, b109, f109]
  simp [-List.getD_eq_getElem?_getD, -Int.ofNat_toNat, -getElem?_pos, er109_0, er109_1, er109_2, er109_3, er109_4, er109_5, er109_6, er109_8, l1]
  have h0 := own_lit false 0 [] (by simp) [(c.length : Int)] (by simp) _ rfl 1 rfl
  refine pc_loopI (fun m st => ∃ (i : Nat) (o p4 p5 : AV) (H : Heap), i + m = c.length ∧ OwnI false 0 H o ((c.length : Int) :: (c.take i).flatten) ∧ st = ([v, .nils, o, .int .i64 i, p4, p5], H)) c.length
    ⟨0, _, _, _, _, by simp, by simpa [cI] using h0, rfl⟩ ?_
  rintro m st ⟨i, o, p4, p5, H', hi, ho, rfl⟩
  by_cases hlt : i < c.length
  · have hlt' : (i : Int) < c.length := by omega
    obtain ⟨a1, a2⟩ := hat hlt
    have hci : c[i].length = 6 := hv.1 _ (List.getElem_mem hlt)
    have hiw := wrap1 hlt (by omega)
    obtain ⟨y0, y1, y2, y3, y4, y5, hy⟩ : ∃ y0 y1 y2 y3 y4 y5, c[i] = [y0, y1, y2, y3, y4, y5] := by
      match hq : c[i], hci with
      | [y0, y1, y2, y3, y4, y5], _ => exact ⟨y0, y1, y2, y3, y4, y5, rfl⟩
    rw [hy] at a2
    have cI6 : cI [y0, y1, y2, y3, y4, y5] = [.int .i64 y0, .int .i64 y1, .int .i64 y2, .int .i64 y3, .int .i64 y4, .int .i64 y5] := rfl
    rw [cI6] at a2
    have ho2 := Own.more ho [Ob.cells 0 false [.int .i64 y0, .int .i64 y1, .int .i64 y2, .int .i64 y3, .int .i64 y4, .int .i64 y5], Ob.cells 0 false [.int .i64 y0, .int .i64 y1, .int .i64 y2, .int .i64 y3, .int .i64 y4, .int .i64 y5]]
    have hpl : ((c.take i).flatten).length ≤ c.flatten.length := by have := part_len id c i; simpa [List.flatMap_id] using this
    obtain ⟨o3, H3, z1, z2, z3, z4⟩ := ownI_appR (w := .sl (H'.length + 1) 0 0 6 1 6 true) (l := [y0, y1, y2, y3, y4, y5]) ho2 (rd_lit (get_at _ _ _) cI6.symm rfl) (by simp) (by simp only [List.length_cons, List.length_nil]; omega)
    simp [-List.getD_eq_getElem?_getD, -Int.ofNat_toNat, -getElem?_pos, er109_0, er109_1, er109_2, er109_3, er109_4, er109_5, er109_6, er109_8, l1, hlt', hlt, a1, a2, get_at, get_at0, set_at, set_at0, setAt, z1, hiw]
    refine next_mk (m - 1) (by omega) ⟨i + 1, o3, _, _, H3, by omega, ?_, rfl⟩
    have : (c.take (i + 1)).flatten = (c.take i).flatten ++ [y0, y1, y2, y3, y4, y5] := by rw [List.take_succ_eq_append_getElem hlt, List.flatten_append, hy]; simp
    rw [this]
    simpa using z2
  · have hlt' : ¬ (i : Int) < c.length := by omega
    have hie : i = c.length := by omega
    subst hie
    rw [List.take_length] at ho
    have hvw := ho.view
    simp only [rv_false] at hvw
    simp [-List.getD_eq_getElem?_getD, -Int.ofNat_toNat, -getElem?_pos, er109_0, er109_1, er109_2, er109_3, er109_4, er109_5, er109_6, er109_8, l1, hlt', Own.one ho, Own.cells ho, Own.part ho, resK, resVs, resV, pack]
    exact hvw
set_option maxHeartbeats 4000000 in
theorem w_PutTrees (h : Has A (φ 108) (f108 φ)) {v : AV} {t : List (List (List Int))} (hv : IsT v t) (hn : (putTrees t).length < 1000000) : PVal A (φ 108) [v] (vI (putTrees t)) := by
  have l1 := hv.len
  simp only [putTrees, List.length_cons] at hn
  have htl : t.length ≤ (t.flatMap fun t => (t.length : Int) :: t.flatten).length := by
    clear hn hv l1
    induction t with
    | nil => exact Nat.le_refl _
    | cons a t ih => simp only [List.flatMap_cons, List.length_append, List.length_cons]; omega
  refine pval_has h rfl ?_
  simp only [l108_10, l108_12, b108, f108]
  simp [-List.getD_eq_getElem?_getD, -Int.ofNat_toNat, -getElem?_pos, er108_0, er108_1, er108_2, er108_3, er108_4, er108_5, er108_6, er108_7, er108_8, er108_9, er108_11, er108_13, l1]
  have h0 := own_lit false 0 [] (by simp) [(t.length : Int)] (by simp) _ rfl 1 rfl
  refine pc_loopI (fun m st => ∃ (i : Nat) (o p4 p5 p6 p7 : AV) (H : Heap), i + m = t.length ∧ OwnI false 0 H o ((t.length : Int) :: (t.take i).flatMap fun t => (t.length : Int) :: t.flatten) ∧ st = ([v, .nils, o, .int .i64 i, p4, p5, p6, p7], H)) t.length
    ⟨0, _, _, _, _, _, _, by simp, by simpa [cI] using h0, rfl⟩ ?_
  rintro m st ⟨i, o, p4, p5, p6, p7, H', hi, ho, rfl⟩
  by_cases hlt : i < t.length
  · have hlt' : (i : Int) < t.length := by omega
    obtain ⟨L, x, a1, a2, a3⟩ := hv.at hlt
    have hiw := wrap1 hlt (by omega)
    have hs1 := part_succ (fun t : List (List Int) => (t.length : Int) :: t.flatten) t hlt
    have hs2 := part_len (fun t : List (List Int) => (t.length : Int) :: t.flatten) t (i + 1)
    rw [hs1, List.length_append, List.length_cons] at hs2
    obtain ⟨tr, htr⟩ : ∃ tr, t[i] = tr := ⟨_, rfl⟩
    rw [htr] at a3 hs1 hs2
    obtain ⟨B, hB⟩ : ∃ B, (t.take i).flatMap (fun t : List (List Int) => (t.length : Int) :: t.flatten) = B := ⟨_, rfl⟩
    rw [hB] at ho hs1 hs2
    have hfi := flat_len a3.1
    have x1 := a3.one
    have x2 := a3.len
    have hatr := fun {j : Nat} (hj : j < tr.length) => a3.at (by omega) hj
    obtain ⟨o4, H4, w1, w2, w3, w4, _⟩ := OwnI.app1 ho (tr.length : Int) (Nat.zero_le _) (by simp only [List.length_cons]; omega)
    simp [-List.getD_eq_getElem?_getD, -Int.ofNat_toNat, -getElem?_pos, er108_0, er108_1, er108_2, er108_3, er108_4, er108_5, er108_6, er108_7, er108_8, er108_9, er108_11, er108_13, l1, hlt', hlt, a1, a2, x1, x2, w1]
    refine pc_loopI (fun m st => ∃ (j : Nat) (o p5 p7 : AV) (H : Heap), j + m = tr.length ∧ OwnI false 0 H o ((t.length : Int) :: B ++ (tr.length : Int) :: (tr.take j).flatten) ∧ st = ([v, .nils, o, .int .i64 i, .int .i64 j, p5, .bool true, p7], H)) tr.length
      ⟨0, o4, _, _, H4, by simp, by simpa using w2, rfl⟩ ?_
    rintro m2 st2 ⟨j, o5, q5, q7, H5, hj, ho5, rfl⟩
    by_cases hlj : j < tr.length
    · have hlj' : (j : Int) < tr.length := by omega
      obtain ⟨e1, e2⟩ := hatr hlj
      have hcj : tr[j].length = 3 := a3.1 _ (List.getElem_mem hlj)
      have hjw := wrap1 hlj (by omega)
      obtain ⟨v0, v1, v2, hvv⟩ : ∃ v0 v1 v2, tr[j] = [v0, v1, v2] := by
        match hq : tr[j], hcj with
        | [v0, v1, v2], _ => exact ⟨v0, v1, v2, rfl⟩
      rw [hvv] at e2
      have cI3 : cI [v0, v1, v2] = [.int .i64 v0, .int .i64 v1, .int .i64 v2] := rfl
      rw [cI3] at e2
      have hpl2 : ((tr.take j).flatten).length ≤ tr.flatten.length := by have := part_len id tr j; simpa [List.flatMap_id] using this
      have ho6 := Own.more ho5 [Ob.cells 0 false [.int .i64 v0, .int .i64 v1, .int .i64 v2], Ob.cells 0 false [.int .i64 v0, .int .i64 v1, .int .i64 v2]]
      obtain ⟨o7, H7, f1, f2, f3, f4⟩ := ownI_appR (w := .sl (H5.length + 1) 0 0 3 1 3 true) (l := [v0, v1, v2]) ho6 (rd_lit (get_at _ _ _) cI3.symm rfl) (by simp) (by simp only [List.length_append, List.length_cons, List.length_nil]; omega)
      simp [-List.getD_eq_getElem?_getD, -Int.ofNat_toNat, -getElem?_pos, er108_0, er108_1, er108_2, er108_3, er108_4, er108_5, er108_6, er108_7, er108_8, er108_9, er108_11, er108_13, a1, a2, x1, x2, hlj', hlj, e1, e2, get_at, get_at0, set_at, set_at0, setAt, f1, hjw]
      refine next_mk (m2 - 1) (by omega) ⟨j + 1, o7, _, _, H7, by omega, ?_, rfl⟩
      have : (tr.take (j + 1)).flatten = (tr.take j).flatten ++ [v0, v1, v2] := by rw [List.take_succ_eq_append_getElem hlj, List.flatten_append, hvv]; simp
      rw [this]
      simpa using f2
    · have hlj' : ¬ (j : Int) < tr.length := by omega
      have hje : j = tr.length := by omega
      subst hje
      rw [List.take_length] at ho5
      simp [-List.getD_eq_getElem?_getD, -Int.ofNat_toNat, -getElem?_pos, er108_0, er108_1, er108_2, er108_3, er108_4, er108_5, er108_6, er108_7, er108_8, er108_9, er108_11, er108_13, a1, a2, x1, x2, hlj', hiw]
      refine next_mk (m - 1) (by omega) ⟨i + 1, o5, _, _, _, _, H5, by omega, ?_, rfl⟩
      rw [hs1]
      simpa using ho5
  · have hlt' : ¬ (i : Int) < t.length := by omega
    have hie : i = t.length := by omega
    subst hie
    rw [List.take_length] at ho
    have hvw := ho.view
    simp only [rv_false] at hvw
    simp [-List.getD_eq_getElem?_getD, -Int.ofNat_toNat, -getElem?_pos, er108_0, er108_1, er108_2, er108_3, er108_4, er108_5, er108_6, er108_7, er108_8, er108_9, er108_11, er108_13, l1, hlt', Own.one ho, Own.cells ho, Own.part ho, resK, resVs, resV, pack]
    exact hvw
end Go.Ai.G
/- CertNarrow. -/
namespace Go.Ai.G
open Go.Ai
set_option maxRecDepth 100000
set_option linter.unusedSimpArgs false
set_option linter.unusedVariables false
variable {A : AProg} {φ : Nat → Nat}
attribute [local simp ↓] getD_z getD_s hid_k hid_o hid_q hid_v PO_nil PO_none PO_grd PD_nil PD_none PD_grd PDO_N PDO_X PDO_call PDO_calli PDO_callv PSX_N PSX_X PSX_call PSX_calli PSX_callv PSX_inv
  PSX_callp PSX_panic PDO_inv PStep_inv thenC_pan blockC_pan loopC_pan endX_ret endX_norm endX_pan PStep_N PStep_X PStep_call PStep_calli PC_skip PC_lab PC_ret PC_exit PC_reg PC_draw
  PC_seq PC_block PC_loop PC_scope PC_cond thenC_norm thenC_ret thenC_exit blockC_norm blockC_ret blockC_exit loopC_norm loopC_ret loopC_exit endR_ret endR_norm
attribute [local simp] gz PDX_free PDX_eq KI_some n_mki n_tas0 n_tasf PStep_callv resK_none resK_t resK_tt KNO_val KNO_new KNO_ite KNO_map KXO_some KXO_ite KVA_t KVA_f KG_skip KG_tt KG_ff KG_tf KG_ft
  KB_true KB_false KNOD_val KNOD_new KNOD_ite n_mv n_pick n_bin n_eqB n_eqN n_eqS n_un n_conv n_fadd n_faddV n_fld1 n_fldN n_idx n_idxA n_idxV n_idxAV n_ext n_lenS n_lenS0 n_lenV
  n_lenT n_lenA n_min n_max n_build n_mkfn n_slc n_slc0 n_slcV n_slcA n_load1 n_loadN n_load1V n_loadNV n_alloc n_box n_bsl n_mksl n_nilcP n_nilcV n_nilcI n_nilcF x_store x_clear0
  x_clear b_add b_sub b_mul b_eql b_neq b_lss b_leq b_gtr b_geq b_and16 unV ntouch gather hide unhide evalOpd applyOuts int_bne int_beq ite_bool ite_int one_bool cells_bool one_int
  cells_int one_str cells_str one_nilp cells_nilp one_ptr cells_ptr one_nils cells_nils one_sl cells_sl one_nilf cells_nilf one_fn cells_fn one_nili cells_nili one_mp cells_mp
  one_nilm cells_nilm one_iface cells_iface one_vs cells_vs one_vp cells_vp cells_agg Nat.testBit setAt_1 setAt_2 closeds_nil closeds_cons closed_bool closed_int closed_str
  closed_nilp closed_nils closed_nilm closed_nilf closed_nili closed_agg closed_tup closed_vs closed_vp closed_iface closed_fn closeds_cI closeds_cE viewA_closed viewR_closed AV.scal
  AV.scal0 fillA repA part_bool part_int part_str part_nilp part_ptr part_nils part_sl part_nilm part_mp part_nilf part_fn part_nili part_iface part_agg part_vs part_vp viewA_sl1
  vaSl_cells wrap_0 wrap_1 wrap_2 wrap_m1 set_last get_last
theorem er110_0 (φ : Nat → Nat) : r110_0 φ = [
  ⟨0, .N .box, [.n 0], none, 0⟩,
  ⟨1, .N .box, [.n 2], none, 0⟩,
  ⟨2, .N .mv, [.c (.bool false)], none, 0⟩] := Eq.trans rfl rfl
theorem er110_1 (φ : Nat → Nat) : r110_1 φ = [
  ⟨0, .calli true (φ 84), [], none, 0⟩,
  ⟨1, .N .mv, [.l 0], none, 0⟩] := Eq.trans rfl rfl
theorem er110_2 (φ : Nat → Nat) : r110_2 φ = [
  ⟨0, .N (.bsl [.int .i64 0] 0 1 []), [], none, 0⟩,
  ⟨1, .N (.fadd 1), [.n 3], none, 0⟩,
  ⟨2, .N .load1, [.l 0], none, 0⟩,
  ⟨3, .N (.fadd 1), [.n 3], none, 0⟩,
  ⟨4, .N .load1, [.l 0], none, 0⟩,
  ⟨5, .N .lenS, [.l 0], none, 0⟩,
  ⟨6, .N .min, [.l 0, .c (.int .i64 30)], none, 0⟩,
  ⟨7, .N (.slc 1 false true false), [.l 4, .l 0], none, 0⟩,
  ⟨8, .X (.app 1 8), [.l 7, .l 0], none, 0⟩,
  ⟨9, .N (.build [.nils, .nils] [(1, 1)]), [.l 0], none, 0⟩,
  ⟨10, .N (.build [.nils, .nils, .nils] [(0, 2)]), [.l 0], none, 0⟩,
  ⟨11, .N (.alloc [.nils, .nils, .nils]), [], none, 0⟩,
  ⟨12, .X (.store 3), [.l 0, .l 1], none, 0⟩] := Eq.trans rfl rfl
theorem er110_3 (φ : Nat → Nat) : r110_3 φ = [
  ⟨0, .N .mv, [.c (.int .i64 0)], none, 0⟩] := Eq.trans rfl rfl
theorem er110_4 (φ : Nat → Nat) : r110_4 φ = [
  ⟨0, .N .mv, [.n 8], none, 0⟩,
  ⟨1, .N (.fadd 0), [.n 3], none, 0⟩,
  ⟨2, .N .load1, [.l 0], none, 0⟩,
  ⟨3, .N .lenS, [.l 0], none, 0⟩,
  ⟨4, .N (.bin .lss), [.l 3, .l 0], none, 0⟩,
  ⟨5, .N .mv, [.l 0], none, 0⟩,
  ⟨6, .N .mv, [.n 8], some (.l 0, true), 0⟩,
  ⟨7, .N (.bin .lss), [.l 0, .c (.int .i64 30)], some (.l 1, true), 0⟩,
  ⟨8, .N .pick, [.l 2, .l 0, .c (.bool false)], none, 0⟩] := Eq.trans rfl rfl
theorem er110_5 (φ : Nat → Nat) : r110_5 φ = [
  ⟨0, .N (.fadd 0), [.n 7], none, 0⟩,
  ⟨1, .N (.fadd 0), [.l 0], none, 1⟩,
  ⟨2, .N .load1, [.l 0], none, 3⟩,
  ⟨3, .N (.bsl [.int .i64 0] 0 1 []), [], none, 0⟩,
  ⟨4, .N (.fadd 0), [.n 3], none, 0⟩,
  ⟨5, .N .load1, [.l 0], none, 16⟩,
  ⟨6, .N .mv, [.n 8], none, 0⟩,
  ⟨7, .N (.idx 1), [.l 1, .l 0], none, 112⟩,
  ⟨8, .N .load1, [.l 0], none, 240⟩,
  ⟨9, .N (.fadd 0), [.n 3], none, 0⟩,
  ⟨10, .N .load1, [.l 0], none, 512⟩,
  ⟨11, .N .mv, [.n 8], none, 0⟩,
  ⟨12, .N (.idx 1), [.l 1, .l 0], none, 3584⟩,
  ⟨13, .N .load1, [.l 0], none, 7680⟩,
  ⟨14, .N .lenS, [.l 0], none, 15872⟩,
  ⟨15, .N .min, [.l 0, .c (.int .i64 5)], none, 32256⟩,
  ⟨16, .N (.slc 1 false true false), [.l 7, .l 0], none, 65520⟩,
  ⟨17, .X (.app 1 8), [.l 13, .l 0], none, 131064⟩,
  ⟨18, .N (.bsl [.nils] 1 1 [(0, 1)]), [.l 0], none, 262136⟩,
  ⟨19, .X (.app 1 24), [.l 16, .l 0], none, 524287⟩,
  ⟨20, .N (.fadd 0), [.n 7], none, 1048575⟩,
  ⟨21, .N (.fadd 0), [.l 0], none, 2097151⟩,
  ⟨22, .X (.store 1), [.l 0, .l 2], none, 4194303⟩] := Eq.trans rfl rfl
theorem er110_6 (φ : Nat → Nat) : r110_6 φ = [
  ⟨0, .N .mv, [.n 8], none, 0⟩,
  ⟨1, .N (.bin .add), [.l 0, .c (.int .i64 1)], none, 0⟩,
  ⟨2, .N .mv, [.l 0], none, 0⟩] := Eq.trans rfl rfl
theorem er110_8 (φ : Nat → Nat) : r110_8 φ = [
  ⟨0, .N .mv, [.c (.nils)], none, 0⟩] := Eq.trans rfl rfl
theorem er110_9 (φ : Nat → Nat) : r110_9 φ = [
  ⟨0, .N .mv, [.c (.int .i64 0)], none, 0⟩] := Eq.trans rfl rfl
theorem er110_10 (φ : Nat → Nat) : r110_10 φ = [
  ⟨0, .N .mv, [.n 10], none, 0⟩,
  ⟨1, .N .mv, [.n 1], none, 0⟩,
  ⟨2, .N .lenS, [.l 0], none, 0⟩,
  ⟨3, .N (.bin .lss), [.l 2, .l 0], none, 0⟩,
  ⟨4, .N .mv, [.l 0], none, 0⟩,
  ⟨5, .N .mv, [.n 10], some (.l 0, true), 0⟩,
  ⟨6, .N (.bin .lss), [.l 0, .c (.int .i64 10)], some (.l 1, true), 0⟩,
  ⟨7, .N .pick, [.l 2, .l 0, .c (.bool false)], none, 0⟩] := Eq.trans rfl rfl
theorem er110_11 (φ : Nat → Nat) : r110_11 φ = [
  ⟨0, .N .mv, [.c (.nils)], none, 0⟩] := Eq.trans rfl rfl
theorem er110_12 (φ : Nat → Nat) : r110_12 φ = [
  ⟨0, .N .mv, [.c (.int .i64 0)], none, 0⟩] := Eq.trans rfl rfl
theorem er110_13 (φ : Nat → Nat) : r110_13 φ = [
  ⟨0, .N .mv, [.n 12], none, 0⟩,
  ⟨1, .N .mv, [.n 1], none, 0⟩,
  ⟨2, .N .mv, [.n 10], none, 0⟩,
  ⟨3, .N (.idx 1), [.l 1, .l 0], none, 0⟩,
  ⟨4, .N .load1, [.l 0], none, 0⟩,
  ⟨5, .N .lenS, [.l 0], none, 0⟩,
  ⟨6, .N (.bin .lss), [.l 5, .l 0], none, 0⟩,
  ⟨7, .N .mv, [.l 0], none, 0⟩,
  ⟨8, .N .mv, [.n 12], some (.l 0, true), 0⟩,
  ⟨9, .N (.bin .lss), [.l 0, .c (.int .i64 30)], some (.l 1, true), 0⟩,
  ⟨10, .N .pick, [.l 2, .l 0, .c (.bool false)], none, 0⟩] := Eq.trans rfl rfl
theorem er110_14 (φ : Nat → Nat) : r110_14 φ = [
  ⟨0, .N .mv, [.n 11], none, 0⟩,
  ⟨1, .N .mv, [.n 1], none, 0⟩,
  ⟨2, .N .mv, [.n 10], none, 0⟩,
  ⟨3, .N (.idx 1), [.l 1, .l 0], none, 0⟩,
  ⟨4, .N .load1, [.l 0], none, 0⟩,
  ⟨5, .N .mv, [.n 12], none, 0⟩,
  ⟨6, .N (.idx 3), [.l 1, .l 0], none, 0⟩,
  ⟨7, .N (.loadN 3), [.l 0], none, 0⟩,
  ⟨8, .N (.bsl [.int .i64 0, .int .i64 0, .int .i64 0] 1 3 [(0, 3)]), [.l 0], none, 0⟩,
  ⟨9, .X (.app 3 24), [.l 8, .l 0], none, 0⟩,
  ⟨10, .N .mv, [.l 0], none, 0⟩] := Eq.trans rfl rfl
theorem er110_15 (φ : Nat → Nat) : r110_15 φ = [
  ⟨0, .N .mv, [.n 12], none, 0⟩,
  ⟨1, .N (.bin .add), [.l 0, .c (.int .i64 1)], none, 0⟩,
  ⟨2, .N .mv, [.l 0], none, 0⟩] := Eq.trans rfl rfl
theorem er110_17 (φ : Nat → Nat) : r110_17 φ = [
  ⟨0, .N (.fadd 2), [.n 7], none, 0⟩,
  ⟨1, .N .load1, [.l 0], none, 0⟩,
  ⟨2, .N .mv, [.n 11], none, 0⟩,
  ⟨3, .N (.bsl [.nils] 1 1 [(0, 1)]), [.l 0], none, 0⟩,
  ⟨4, .X (.app 1 24), [.l 2, .l 0], none, 0⟩,
  ⟨5, .N (.fadd 2), [.n 7], none, 0⟩,
  ⟨6, .X (.store 1), [.l 0, .l 1], none, 0⟩] := Eq.trans rfl rfl
theorem er110_18 (φ : Nat → Nat) : r110_18 φ = [
  ⟨0, .N .mv, [.n 9], none, 0⟩,
  ⟨1, .N .mv, [.n 1], none, 0⟩,
  ⟨2, .N .mv, [.n 10], none, 0⟩,
  ⟨3, .N (.idx 1), [.l 1, .l 0], none, 6⟩,
  ⟨4, .N .load1, [.l 0], none, 14⟩,
  ⟨5, .N .mv, [.n 1], none, 0⟩,
  ⟨6, .N .mv, [.n 10], none, 0⟩,
  ⟨7, .N (.idx 1), [.l 1, .l 0], none, 96⟩,
  ⟨8, .N .load1, [.l 0], none, 224⟩,
  ⟨9, .N .lenS, [.l 0], none, 480⟩,
  ⟨10, .N .min, [.l 0, .c (.int .i64 30)], none, 992⟩,
  ⟨11, .N (.slc 3 false true false), [.l 6, .l 0], none, 2046⟩,
  ⟨12, .N (.bsl [.nils] 1 1 [(0, 1)]), [.l 0], none, 4094⟩,
  ⟨13, .X (.app 1 24), [.l 12, .l 0], none, 8191⟩,
  ⟨14, .N .mv, [.l 0], none, 16383⟩] := Eq.trans rfl rfl
theorem er110_19 (φ : Nat → Nat) : r110_19 φ = [
  ⟨0, .N .mv, [.n 10], none, 0⟩,
  ⟨1, .N (.bin .add), [.l 0, .c (.int .i64 1)], none, 0⟩,
  ⟨2, .N .mv, [.l 0], none, 0⟩] := Eq.trans rfl rfl
theorem er110_21 (φ : Nat → Nat) : r110_21 φ = [
  ⟨0, .N (.fadd 0), [.n 4], none, 0⟩,
  ⟨1, .N .load1, [.l 0], none, 0⟩,
  ⟨2, .N (.build [.int .i64 0, .nils] [(0, 1)]), [.l 0], none, 0⟩,
  ⟨3, .N (.build [.int .i64 0, .nils] [(0, 2)]), [.l 0], none, 0⟩,
  ⟨4, .N (.alloc [.int .i64 0, .nils]), [], none, 0⟩,
  ⟨5, .X (.store 2), [.l 0, .l 1], none, 0⟩] := Eq.trans rfl rfl
theorem er110_22 (φ : Nat → Nat) : r110_22 φ = [
  ⟨0, .N .mv, [.c (.int .i64 0)], none, 0⟩] := Eq.trans rfl rfl
theorem er110_23 (φ : Nat → Nat) : r110_23 φ = [
  ⟨0, .N .mv, [.n 14], none, 0⟩,
  ⟨1, .N (.fadd 1), [.n 4], none, 0⟩,
  ⟨2, .N .load1, [.l 0], none, 0⟩,
  ⟨3, .N .lenS, [.l 0], none, 0⟩,
  ⟨4, .N (.bin .lss), [.l 3, .l 0], none, 0⟩,
  ⟨5, .N .mv, [.l 0], none, 0⟩,
  ⟨6, .N .mv, [.n 14], some (.l 0, true), 0⟩,
  ⟨7, .N (.bin .lss), [.l 0, .c (.int .i64 30)], some (.l 1, true), 0⟩,
  ⟨8, .N .pick, [.l 2, .l 0, .c (.bool false)], none, 0⟩] := Eq.trans rfl rfl
theorem er110_24 (φ : Nat → Nat) : r110_24 φ = [
  ⟨0, .N (.fadd 0), [.n 13], none, 0⟩,
  ⟨1, .N (.fadd 1), [.l 0], none, 1⟩,
  ⟨2, .N .load1, [.l 0], none, 3⟩,
  ⟨3, .N (.fadd 1), [.n 4], none, 0⟩,
  ⟨4, .N .load1, [.l 0], none, 8⟩,
  ⟨5, .N .mv, [.n 14], none, 0⟩,
  ⟨6, .N (.idx 6), [.l 1, .l 0], none, 56⟩,
  ⟨7, .N (.loadN 6), [.l 0], none, 120⟩,
  ⟨8, .N (.bsl [.int .i64 0, .int .i64 0, .int .i64 0, .int .i64 0, .int .i64 0, .int .i64 0] 1 6 [(0, 6)]), [.l 0], none, 248⟩,
  ⟨9, .X (.app 6 48), [.l 6, .l 0], none, 511⟩,
  ⟨10, .N (.fadd 0), [.n 13], none, 1023⟩,
  ⟨11, .N (.fadd 1), [.l 0], none, 2047⟩,
  ⟨12, .X (.store 1), [.l 0, .l 2], none, 4095⟩] := Eq.trans rfl rfl
theorem er110_25 (φ : Nat → Nat) : r110_25 φ = [
  ⟨0, .N .mv, [.n 14], none, 0⟩,
  ⟨1, .N (.bin .add), [.l 0, .c (.int .i64 1)], none, 0⟩,
  ⟨2, .N .mv, [.l 0], none, 0⟩] := Eq.trans rfl rfl
theorem er110_27 (φ : Nat → Nat) : r110_27 φ = [
  ⟨0, .N (.loadN 3), [.n 7], none, 0⟩,
  ⟨1, .N (.mki (φ 91)), [.l 0], none, 0⟩,
  ⟨2, .calli false (φ 99), [.l 0], none, 0⟩,
  ⟨3, .N .mv, [.l 0], none, 0⟩] := Eq.trans rfl rfl
theorem er110_28 (φ : Nat → Nat) : r110_28 φ = [
  ⟨0, .N (.loadN 2), [.n 13], none, 0⟩,
  ⟨1, .N (.mki (φ 95)), [.l 0], none, 0⟩,
  ⟨2, .calli false (φ 99), [.l 0], none, 0⟩,
  ⟨3, .N .mv, [.l 0], none, 0⟩] := Eq.trans rfl rfl
theorem er110_29 (φ : Nat → Nat) : r110_29 φ = [
  ⟨0, .N (.bsl [.int .i64 0] 1 1 [(0, 1)]), [.c (.int .i64 2)], none, 0⟩,
  ⟨1, .N (.fadd 0), [.n 7], none, 0⟩,
  ⟨2, .N (.fadd 0), [.l 0], none, 2⟩,
  ⟨3, .N .load1, [.l 0], none, 6⟩,
  ⟨6, .N (.fadd 0), [.n 7], none, 0⟩,
  ⟨7, .N (.fadd 1), [.l 0], none, 16⟩,
  ⟨8, .N .load1, [.l 0], none, 48⟩,
  ⟨11, .N .mv, [.n 9], none, 0⟩,
  ⟨4, .calli false (φ 102), [.l 4], none, 14⟩,
  ⟨5, .X (.app 1 8), [.l 8, .l 0], none, 271⟩,
  ⟨9, .calli false (φ 101), [.l 3], none, 895⟩,
  ⟨10, .X (.app 1 8), [.l 1, .l 0], none, 1919⟩,
  ⟨12, .calli false (φ 108), [.l 4], none, 4095⟩,
  ⟨13, .X (.app 1 8), [.l 1, .l 0], none, 8191⟩,
  ⟨14, .N .mv, [.l 0], none, 16383⟩] := Eq.trans rfl rfl
theorem er110_30 (φ : Nat → Nat) : r110_30 φ = [
  ⟨0, .N .mv, [.n 15], none, 0⟩,
  ⟨1, .calli false (φ 85), [.l 0], none, 0⟩,
  ⟨2, .N .mv, [.l 0], none, 0⟩,
  ⟨3, .N (.ext 0), [.l 0], none, 0⟩,
  ⟨4, .N (.ext 1), [.l 1], none, 0⟩,
  ⟨5, .N .mv, [.l 1], none, 0⟩,
  ⟨6, .N .mv, [.l 1], none, 0⟩] := Eq.trans rfl rfl
theorem er110_31 (φ : Nat → Nat) : r110_31 φ = [
  ⟨0, .N .mv, [.n 16], none, 0⟩,
  ⟨1, .calli false (φ 85), [.l 0], none, 0⟩,
  ⟨2, .N .mv, [.l 0], none, 0⟩,
  ⟨3, .N (.ext 0), [.l 0], none, 0⟩,
  ⟨4, .N (.ext 1), [.l 1], none, 0⟩,
  ⟨5, .N .mv, [.l 1], none, 0⟩,
  ⟨6, .N .mv, [.l 1], none, 0⟩] := Eq.trans rfl rfl
theorem er110_32 (φ : Nat → Nat) : r110_32 φ = [
  ⟨0, .N .mv, [.n 19], none, 0⟩,
  ⟨1, .N (.bin .neq), [.l 0, .c (.int .i64 0)], none, 0⟩,
  ⟨2, .N .mv, [.l 0], none, 0⟩,
  ⟨3, .N .mv, [.n 21], some (.l 0, false), 0⟩,
  ⟨4, .N (.bin .neq), [.l 0, .c (.int .i64 0)], some (.l 1, false), 0⟩,
  ⟨5, .N .pick, [.l 2, .c (.bool true), .l 0], none, 0⟩,
  ⟨6, .N .mv, [.l 0], none, 0⟩,
  ⟨7, .N .mv, [.n 18], some (.l 0, false), 0⟩,
  ⟨8, .N (.eqN 4 false), [.l 0, .c (.nili)], some (.l 1, false), 0⟩,
  ⟨9, .N .pick, [.l 2, .c (.bool true), .l 0], none, 0⟩,
  ⟨10, .N .mv, [.l 0], none, 0⟩,
  ⟨11, .N .mv, [.n 20], some (.l 0, false), 0⟩,
  ⟨12, .N (.eqN 4 false), [.l 0, .c (.nili)], some (.l 1, false), 0⟩,
  ⟨13, .N .pick, [.l 2, .c (.bool true), .l 0], none, 0⟩] := Eq.trans rfl rfl
theorem er110_33 (φ : Nat → Nat) : r110_33 φ = [
  ⟨0, .N .mv, [.c (.bool false)], none, 0⟩] := Eq.trans rfl rfl
theorem er110_34 (φ : Nat → Nat) : r110_34 φ = [
  ⟨0, .N .mv, [.n 6], none, 0⟩,
  ⟨1, .N .mv, [.l 0], none, 1⟩,
  ⟨2, .N .mv, [.n 15], some (.l 0, true), 3⟩,
  ⟨3, .N .mv, [.n 17], some (.l 1, true), 3⟩,
  ⟨4, .calli true (φ 11), [.l 1, .l 0], some (.l 2, true), 15⟩,
  ⟨5, .N .pick, [.l 3, .l 0, .c (.bool false)], none, 31⟩,
  ⟨6, .N .mv, [.l 0], none, 63⟩,
  ⟨7, .N .mv, [.n 16], some (.l 0, true), 127⟩,
  ⟨8, .N (.fadd 0), [.n 4], some (.l 1, true), 127⟩,
  ⟨9, .N .load1, [.l 0], some (.l 2, true), 383⟩,
  ⟨10, .N (.bsl [.int .i64 0] 2 1 [(0, 1), (1, 1)]), [.c (.int .i64 6), .l 0], some (.l 3, true), 895⟩,
  ⟨11, .N (.fadd 1), [.n 4], some (.l 4, true), 127⟩,
  ⟨12, .N .load1, [.l 0], some (.l 5, true), 2175⟩,
  ⟨13, .N (.fadd 1), [.n 4], some (.l 6, true), 127⟩,
  ⟨14, .N .load1, [.l 0], some (.l 7, true), 8319⟩,
  ⟨15, .N .lenS, [.l 0], some (.l 8, true), 24703⟩,
  ⟨16, .N .min, [.l 0, .c (.int .i64 30)], some (.l 9, true), 57471⟩,
  ⟨17, .N (.slc 6 false true false), [.l 4, .l 0], some (.l 10, true), 129151⟩,
  ⟨18, .calli false (φ 109), [.l 0], some (.l 11, true), 260223⟩,
  ⟨19, .X (.app 1 8), [.l 8, .l 0], some (.l 12, true), 524159⟩,
  ⟨20, .calli true (φ 11), [.l 12, .l 0], some (.l 13, true), 1048575⟩,
  ⟨21, .N .pick, [.l 14, .l 0, .c (.bool false)], none, 2097151⟩,
  ⟨22, .N .mv, [.l 0], none, 4194303⟩,
  ⟨23, .N .mv, [.n 18], some (.l 0, true), 8388607⟩,
  ⟨24, .inv [(φ 87, φ 88), (φ 89, φ 90), (φ 91, φ 92), (φ 93, φ 94), (φ 95, φ 96), (φ 97, φ 98)], [.l 0], some (.l 1, true), 16777215⟩,
  ⟨25, .N (.bin .eql), [.l 0, .c (.int .i64 2)], some (.l 2, true), 33554431⟩,
  ⟨26, .N .pick, [.l 3, .l 0, .c (.bool false)], none, 67108863⟩,
  ⟨27, .N .mv, [.l 0], none, 134217727⟩,
  ⟨28, .N .mv, [.n 20], some (.l 0, true), 268435455⟩,
  ⟨29, .inv [(φ 87, φ 88), (φ 89, φ 90), (φ 91, φ 92), (φ 93, φ 94), (φ 95, φ 96), (φ 97, φ 98)], [.l 0], some (.l 1, true), 536870911⟩,
  ⟨30, .N (.bin .eql), [.l 0, .c (.int .i64 6)], some (.l 2, true), 1073741823⟩,
  ⟨31, .N .pick, [.l 3, .l 0, .c (.bool false)], none, 2147483647⟩,
  ⟨32, .N .mv, [.l 0], none, 4294967295⟩,
  ⟨33, .N .mv, [.n 18], some (.l 0, true), 8589934591⟩,
  ⟨35, .N .mv, [.n 15], some (.l 1, true), 8589934591⟩,
  ⟨34, .calli false (φ 99), [.l 1], some (.l 2, true), 17179869183⟩,
  ⟨36, .calli true (φ 11), [.l 0, .l 1], some (.l 3, true), 68719476735⟩,
  ⟨37, .N .pick, [.l 4, .l 0, .c (.bool false)], none, 137438953471⟩,
  ⟨38, .N .mv, [.l 0], none, 274877906943⟩,
  ⟨39, .N .mv, [.n 20], some (.l 0, true), 549755813887⟩,
  ⟨41, .N .mv, [.n 16], some (.l 1, true), 549755813887⟩,
  ⟨40, .calli false (φ 99), [.l 1], some (.l 2, true), 1099511627775⟩,
  ⟨42, .calli true (φ 11), [.l 0, .l 1], some (.l 3, true), 4398046511103⟩,
  ⟨43, .N .pick, [.l 4, .l 0, .c (.bool false)], none, 8796093022207⟩,
  ⟨44, .N .mv, [.l 0], none, 17592186044415⟩] := Eq.trans rfl rfl
structure N22 (A : AProg) (φ : Nat → Nat) : Prop extends L22 A φ where
  putTrees : Has A (φ 108) (f108 φ)
  putCuts : Has A (φ 109) (f109 φ)
theorem mpG {G T : Prop} (f : G → T) (g : G) : T := f g
def cut5 (rows : List (List Int)) : List (List Int) := rows.map (·.take 5)
def cutT (ts : List (List (List Int))) : List (List (List Int)) := ts.map (·.take 30)
set_option maxHeartbeats 32000000 in
theorem w_CertNarrow (h : Has A (φ 110) (f110 φ)) (hS : PVal A (φ 84) [] (.bool true)) (g : N22 A φ) (S U : AV) (ss : List (List Int)) (us : List Int) (hSs : IsRows S ss) (hU : IsI U us) (tV : AV) (ts : List (List (List Int))) (hT : IsT tV ts) (e : Int) (C : AV) (cs : List (List Int)) (hC : IsN 6 C cs) :
    PVal A (φ 110) [.agg [S, U], tV, .agg [.int .i64 e, C]] (.bool true) := by
  have hsh := hS.eq
  have t1 := hU.one
  have t2 := hU.cells
  have t3 := hU.len
  have p1 := hSs.one
  have p2 := hSs.cells
  have p3 := hSs.len
  have v1 := hC.one
  have v2 := hC.cells
  have v3 := hC.len
  have T3 := hT.len
  obtain ⟨u', o, H0, s1, y1, y2, y3, y4⟩ := cutI (P := 3) (H := [Ob.cells 0 false [S, U], Ob.cells 0 false [.int .i64 e, C], Ob.cells 0 false []]) hU 30 (by omega) 2 (by simp)
  have hmin := minV_i (us.length : Int) 30
  have hmm : min (us.length : Int) 30 = ((min us.length 30 : Nat) : Int) := by omega
  rw [hmm] at hmin
  have q1 := Own.one y2
  have q2 := Own.cells y2
  have q3 := Own.part y2
  simp only [List.length_cons, List.length_nil] at y4
  have htl : (us.take 30).length ≤ 30 := by simp; omega
  obtain ⟨tl, htd⟩ : ∃ tl, us.take 30 = tl := ⟨_, rfl⟩
  rw [htd] at y2 htl
  obtain ⟨X, hX⟩ : ∃ X, H0.length = X := ⟨_, rfl⟩
  have e0 : (H0 ++ [Ob.cells 0 false [.nils, o, .nils]])[0]? = some (.cells 0 false [S, U]) := by rw [List.getElem?_append_left (by omega)]; exact y3 0 (by omega)
  have e1 : (H0 ++ [Ob.cells 0 false [.nils, o, .nils]])[1]? = some (.cells 0 false [.int .i64 e, C]) := by rw [List.getElem?_append_left (by omega)]; exact y3 1 (by omega)
  have e2 : (H0 ++ [Ob.cells 0 false [.nils, o, .nils]])[X]? = some (.cells 0 false [.nils, o, .nils]) := by rw [← hX, get_at0]; rfl
  have eo : OwnI false 3 (H0 ++ [Ob.cells 0 false [.nils, o, .nils]]) o tl := Own.more y2 _
  have eb : ∀ b, blkOf o = some b → b < X := fun b hb => by have := (Own.blk y2 hb).2; omega
  refine pval_has h rfl ?_
  simp only [l110_7, l110_16, l110_20, l110_26, b110, f110]
  simp [-List.getD_eq_getElem?_getD, -Int.ofNat_toNat, -getElem?_pos, er110_0, er110_1, er110_2, er110_3, er110_4, er110_5, er110_6, er110_8, er110_9, er110_10, er110_11, er110_12, er110_13, er110_14, er110_15, er110_17, er110_18, er110_19, er110_21, er110_22, er110_23, er110_24, er110_25, er110_27, er110_28, er110_29, er110_30, er110_31, er110_32, er110_33, er110_34, hsh, t1, t2, t3, p1, p2, v1, v2, foldV, hmin, s1, y1, q1, q2, q3, setAt, get_at, get_at0, set_at, set_at0]
  have eN : (H0 ++ [Ob.cells 0 false [.nils, o, .nils]]).length = X + 1 := by simp [hX]
  simp only [hX]
  have hX3 : 3 ≤ X := by omega
  generalize H0 ++ [Ob.cells 0 false [.nils, o, .nils]] = Hs at *
  refine pc_loopI (fun m st => ∃ (i : Nat) (sv p22 : AV) (H : Heap), i + m = min ss.length 30 ∧ H[0]? = some (.cells 0 false [S, U]) ∧ H[1]? = some (.cells 0 false [.int .i64 e, C]) ∧ H[X]? = some (.cells 0 false [sv, o, .nils]) ∧ OwnI false 3 H o tl ∧ X + 1 ≤ H.length ∧ OwnR true (X + 1) H sv (cut5 (ss.take i)) ∧
    st = ([.agg [S, U], tV, .agg [.int .i64 e, C], .ptr 0 0 0, .ptr 1 0 0, .bool false, .bool true, .ptr X 0 0, .int .i64 i, .un, .un, .un, .un, .un, .un, .un, .un, .un, .un, .un, .un, .un, p22, .un, .un, .un, .un], H)) (min ss.length 30)
    ⟨0, .nils, _, Hs, by simp, e0, e1, e2, eo, by omega, ownR_nil _ _, rfl⟩ ?_
  rintro m st ⟨i, sv, p22, H, hi, f0, f1, f2, fo, fN, fp, rfl⟩
  have hlt0 := lt_of_get f0
  have hlt1 := lt_of_get f1
  have hltX := lt_of_get f2
  have w1 := fp.one
  have w2 := fp.cells
  have w3 := fp.part
  by_cases hlt : i < ss.length ∧ i < 30
  · obtain ⟨hlt, h8⟩ := hlt
    have hlt' : (i : Int) < ss.length := by omega
    have h8' : (i : Int) < 30 := by omega
    have hiw := wrap1 h8 (by omega)
    obtain ⟨c, x, a1, a2, a3⟩ := hSs.at hlt
    have xl := a3.len
    have x1 := a3.one
    obtain ⟨v2', o2, H2, r1, r2, r3, r4, r5⟩ := cutI (P := H.length) (H := H ++ [Ob.cells 0 false []]) a3 5 (by omega) H.length (by simp)
    have hmin2 := minV_i (ss[i].length : Int) 5
    have hmm2 : min (ss[i].length : Int) 5 = ((min ss[i].length 5 : Nat) : Int) := by omega
    rw [hmm2] at hmin2
    have f0' : (H ++ [Ob.cells 0 false []])[0]? = some (.cells 0 false [S, U]) := (List.getElem?_append_left hlt0).trans f0
    have f2' : (H ++ [Ob.cells 0 false []])[X]? = some (.cells 0 false [sv, o, .nils]) := (List.getElem?_append_left hltX).trans f2
    have k0 : H2[0]? = some (.cells 0 false [S, U]) := (r4 0 hlt0).trans f0'
    have k1 : H2[1]? = some (.cells 0 false [.int .i64 e, C]) := (r4 1 hlt1).trans ((List.getElem?_append_left hlt1).trans f1)
    have k2 : H2[X]? = some (.cells 0 false [sv, o, .nils]) := (r4 X hltX).trans f2'
    simp only [List.length_append, List.length_cons, List.length_nil] at r5
    have hct : cut5 (ss.take i) ++ [ss[i].take 5] = cut5 (ss.take (i + 1)) := by unfold cut5; rw [List.take_succ_eq_append_getElem hlt, List.map_append]; rfl
    have fp' : OwnR true (X + 1) H2 sv (cut5 (ss.take i)) := fp.keep (fun b _ hb => by rw [r4 b hb, List.getElem?_append_left hb]) (by omega)
    obtain ⟨o3, H3, u1, u2, u3, u4, u5, u6⟩ := fp'.app1 (Own.vw r3) (fun b hbl => by
      obtain ⟨b1, b2⟩ := Own.blk r3 hbl
      refine ⟨by omega, b2, fun e => ?_⟩
      have := (fp.blk e).2
      omega) (by omega) (by simp [cut5]; omega)
    rw [hct] at u2
    have m0 := (u3 0 (by omega)).trans k0
    have m1 := (u3 1 (by omega)).trans k1
    have m2 := (u3 X (by omega)).trans k2
    simp [-List.getD_eq_getElem?_getD, -Int.ofNat_toNat, -getElem?_pos, er110_0, er110_1, er110_2, er110_3, er110_4, er110_5, er110_6, er110_8, er110_9, er110_10, er110_11, er110_12, er110_13, er110_14, er110_15, er110_17, er110_18, er110_19, er110_21, er110_22, er110_23, er110_24, er110_25, er110_27, er110_28, er110_29, er110_30, er110_31, er110_32, er110_33, er110_34, p3, f0, f2, w1, w2, w3, hlt', hlt, h8', h8, a1, a2, xl, x1, foldV, hmin2, r1, r2, f0', f2', k0, k2, Own.one r3, Own.cells r3, Own.part r3, u1, u5, u6, m0, m2, setAt, hiw]
    refine next_mk (m - 1) (by omega) ⟨i + 1, o3, _, _, by omega, by rw [List.getElem?_set_ne (by omega)]; exact m0, by rw [List.getElem?_set_ne (by omega)]; exact m1, List.getElem?_set_self (by omega), ?_, by simp; omega, u2.keep (fun b hb _ => List.getElem?_set_ne (by omega)) (by simp), rfl⟩
    refine Own.keep fo fun b hb hbv => ?_
    have hb3 := (Own.blk fo hbv).1
    have hbN := eb b hbv
    rw [List.getElem?_set_ne (by omega), u3 b (by omega), r4 b (by omega), List.getElem?_append_left hb]
  · obtain ⟨sl, hsl⟩ : ∃ sl, cut5 (ss.take i) = sl := ⟨_, rfl⟩
    have hsn : sl.length ≤ 30 := by rw [← hsl]; simp [cut5]; omega
    have hse : ∀ c ∈ sl, c.length ≤ 5 := by
      intro c hc
      rw [← hsl] at hc
      unfold cut5 at hc
      obtain ⟨q, _, rfl⟩ := List.mem_map.1 hc
      simp; omega
    rw [hsl] at fp
    refine mpG (G := ?G) ?ha ?hb
    case ha =>
      by_cases hlt2 : i < ss.length
      · have hlt' : (i : Int) < ss.length := by omega
        have h8 : ¬ i < 30 := fun h => hlt ⟨hlt2, h⟩
        have h8' : ¬ (i : Int) < 30 := by omega
        intro hk
        simp [-List.getD_eq_getElem?_getD, -Int.ofNat_toNat, -getElem?_pos, er110_0, er110_1, er110_2, er110_3, er110_4, er110_5, er110_6, er110_8, er110_9, er110_10, er110_11, er110_12, er110_13, er110_14, er110_15, er110_17, er110_18, er110_19, er110_21, er110_22, er110_23, er110_24, er110_25, er110_27, er110_28, er110_29, er110_30, er110_31, er110_32, er110_33, er110_34, p3, f0, f2, w1, w2, w3, hlt', hlt2, h8', h8]
        exact hk
      · have hlt' : ¬ (i : Int) < ss.length := by omega
        intro hk
        simp [-List.getD_eq_getElem?_getD, -Int.ofNat_toNat, -getElem?_pos, er110_0, er110_1, er110_2, er110_3, er110_4, er110_5, er110_6, er110_8, er110_9, er110_10, er110_11, er110_12, er110_13, er110_14, er110_15, er110_17, er110_18, er110_19, er110_21, er110_22, er110_23, er110_24, er110_25, er110_27, er110_28, er110_29, er110_30, er110_31, er110_32, er110_33, er110_34, p3, f0, f2, w1, w2, w3, hlt', hlt2]
        exact hk
    clear hlt
    obtain ⟨N1, hN1⟩ : ∃ N1, H.length = N1 := ⟨_, rfl⟩
    refine pc_loopI (fun m st => ∃ (i2 : Nat) (trees tv p11 p12 p23 p24 : AV) (K : Heap) (vals : List AV), i2 + m = min ts.length 10 ∧ (∀ b, b < N1 → b ≠ X → K[b]? = H[b]?) ∧ K[X]? = some (.cells 0 false [sv, o, tv]) ∧ N1 ≤ K.length ∧ Own true N1 K trees 1 i2 vals ∧ (∀ (j : Nat) x t, vals[j]? = some x → (cutT (ts.take i2))[j]? = some t → IsN 3 x t) ∧ OwnX (blkOf trees) true true 3 N1 K tv ((cutT (ts.take i2)).map (eT 3)) ∧
      st = ([.agg [S, U], tV, .agg [.int .i64 e, C], .ptr 0 0 0, .ptr 1 0 0, .bool false, .bool true, .ptr X 0 0, .int .i64 i, trees, .int .i64 i2, p11, p12, .un, .un, .un, .un, .un, .un, .un, .un, .un, .bool false, p23, p24, .un, .un], K)) (min ts.length 10)
      ⟨0, .nils, .nils, _, _, _, _, H, [], by simp, fun _ _ _ => rfl, f2, by omega, own_nil _ _ _, fun j x t h => by simp at h, ownX_nil _ _ _ _ _, rfl⟩ ?_
    rintro m2 st2 ⟨i2, trees, tv, p11, p12, p23, p24, K, vals, hi2, kf, kX, kN, ko, kv, kx, rfl⟩
    have kXl := lt_of_get kX
    have k0 : K[0]? = some (.cells 0 false [S, U]) := (kf 0 (by omega) (by omega)).trans f0
    have k1 : K[1]? = some (.cells 0 false [.int .i64 e, C]) := (kf 1 (by omega) (by omega)).trans f1
    by_cases hlt : i2 < ts.length ∧ i2 < 10
    · obtain ⟨hlt, h8⟩ := hlt
      have hlt' : (i2 : Int) < ts.length := by omega
      have h8' : (i2 : Int) < 10 := by omega
      have hiw := wrap1 h8 (by omega)
      obtain ⟨L, x, a1, a2, a3⟩ := hT.at hlt
      obtain ⟨tr, htr⟩ : ∃ tr, ts[i2] = tr := ⟨_, rfl⟩
      rw [htr] at a3
      have x1 := a3.one
      have x2 := a3.len
      simp [-List.getD_eq_getElem?_getD, -Int.ofNat_toNat, -getElem?_pos, er110_0, er110_1, er110_2, er110_3, er110_4, er110_5, er110_6, er110_8, er110_9, er110_10, er110_11, er110_12, er110_13, er110_14, er110_15, er110_17, er110_18, er110_19, er110_21, er110_22, er110_23, er110_24, er110_25, er110_27, er110_28, er110_29, er110_30, er110_31, er110_32, er110_33, er110_34, T3, hlt', hlt, h8', h8]
      refine pc_loopI (fun m st => ∃ (j : Nat) (one p24 : AV) (J : Heap), j + m = min tr.length 30 ∧ (∀ b, b < K.length → J[b]? = K[b]?) ∧ K.length ≤ J.length ∧ Own true K.length J one 3 j (cI (tr.take j).flatten) ∧
        st = ([.agg [S, U], tV, .agg [.int .i64 e, C], .ptr 0 0 0, .ptr 1 0 0, .bool false, .bool true, .ptr X 0 0, .int .i64 i, trees, .int .i64 i2, one, .int .i64 j, .un, .un, .un, .un, .un, .un, .un, .un, .un, .bool false, .bool true, p24, .un, .un], J)) (min tr.length 30)
        ⟨0, .nils, _, K, by simp, fun _ _ => rfl, Nat.le_refl _, own_nil _ _ _, rfl⟩ ?_
      rintro m3 st3 ⟨j, one, p24, J, hj, jf, jN, jo, rfl⟩
      by_cases hlj : j < tr.length ∧ j < 30
      · obtain ⟨hlj, h9⟩ := hlj
        have hlj' : (j : Int) < tr.length := by omega
        have h9' : (j : Int) < 30 := by omega
        have hjw := wrap1 h9 (by omega)
        obtain ⟨e1, e2⟩ := a3.at (by omega) hlj
        have hcj : tr[j].length = 3 := a3.1 _ (List.getElem_mem hlj)
        obtain ⟨n0, n1, n2, hvv⟩ : ∃ n0 n1 n2, tr[j] = [n0, n1, n2] := by
          match hq : tr[j], hcj with
          | [n0, n1, n2], _ => exact ⟨n0, n1, n2, rfl⟩
        rw [hvv] at e2
        have cI3 : cI [n0, n1, n2] = [.int .i64 n0, .int .i64 n1, .int .i64 n2] := rfl
        rw [cI3] at e2
        obtain ⟨o5, J5, z1, z2, z3, z4, z5⟩ := Own.app1 (bytes := 24) (x := [.int .i64 n0, .int .i64 n1, .int .i64 n2]) jo rfl rfl jN (by omega)
        simp [-List.getD_eq_getElem?_getD, -Int.ofNat_toNat, -getElem?_pos, er110_0, er110_1, er110_2, er110_3, er110_4, er110_5, er110_6, er110_8, er110_9, er110_10, er110_11, er110_12, er110_13, er110_14, er110_15, er110_17, er110_18, er110_19, er110_21, er110_22, er110_23, er110_24, er110_25, er110_27, er110_28, er110_29, er110_30, er110_31, er110_32, er110_33, er110_34, hlj', hlj, h9', h9, a1, a2, x1, x2, e1, e2, z1, hjw]
        refine next_mk (m3 - 1) (by omega) ⟨j + 1, o5, _, J5, by omega, fun b hb => ?_, by omega, ?_, rfl⟩
        · rw [z3 b (by omega) fun e => by have := (Own.blk jo e).1; omega]; exact jf b hb
        · have : cI (tr.take (j + 1)).flatten = cI (tr.take j).flatten ++ [.int .i64 n0, .int .i64 n1, .int .i64 n2] := by
            rw [List.take_succ_eq_append_getElem hlj, List.flatten_append, hvv, cI_append]; simp [cI]
          rw [this]; exact z2
      · refine mpG (G := ?G2) ?ha2 ?hb2
        case ha2 =>
          by_cases hlt2 : j < tr.length
          · have hlj' : (j : Int) < tr.length := by omega
            have h9 : ¬ j < 30 := fun h => hlj ⟨hlt2, h⟩
            have h9' : ¬ (j : Int) < 30 := by omega
            intro hk
            simp [-List.getD_eq_getElem?_getD, -Int.ofNat_toNat, -getElem?_pos, er110_0, er110_1, er110_2, er110_3, er110_4, er110_5, er110_6, er110_8, er110_9, er110_10, er110_11, er110_12, er110_13, er110_14, er110_15, er110_17, er110_18, er110_19, er110_21, er110_22, er110_23, er110_24, er110_25, er110_27, er110_28, er110_29, er110_30, er110_31, er110_32, er110_33, er110_34, a1, a2, x1, x2, hlj', hlt2, h9', h9]
            exact hk
          · have hlj' : ¬ (j : Int) < tr.length := by omega
            intro hk
            simp [-List.getD_eq_getElem?_getD, -Int.ofNat_toNat, -getElem?_pos, er110_0, er110_1, er110_2, er110_3, er110_4, er110_5, er110_6, er110_8, er110_9, er110_10, er110_11, er110_12, er110_13, er110_14, er110_15, er110_17, er110_18, er110_19, er110_21, er110_22, er110_23, er110_24, er110_25, er110_27, er110_28, er110_29, er110_30, er110_31, er110_32, er110_33, er110_34, a1, a2, x1, x2, hlj', hlt2]
            exact hk
        have jX : J[X]? = some (.cells 0 false [sv, o, tv]) := (jf X kXl).trans kX
        have kx' : OwnX (blkOf trees) true true 3 N1 J tv ((cutT (ts.take i2)).map (eT 3)) := kx.keep (fun b _ hb _ => jf b hb) jN fun b hb => .inl hb
        have hjt : tr.take j = tr.take 30 := by
          rcases Nat.lt_or_ge j tr.length with h | h
          · have : j = 30 := by omega
            rw [this]
          · rw [List.take_of_length_le h, List.take_of_length_le (by omega)]
        have hjl : j = (tr.take 30).length := by rw [← hjt, List.length_take]; omega
        rw [hjt, hjl] at jo
        have htb := fun b (hb : blkOf trees = some b) => Own.blk ko hb
        have hvb := fun b (hb : blkOf tv = some b) => kx.blk hb
        obtain ⟨tv', H2, u1, u2, u3, u4, u5, u6⟩ := kx'.app1 (r := one) (x := eT 3 (tr.take 30)) (Own.vw jo) (closeds_cI _) (fun b hb => by
          have hb1 := Own.blk jo hb
          refine ⟨by omega, hb1.2, fun e => ?_, fun e => ?_⟩
          · have := (hvb b e).2.1; omega
          · have := (htb b e).2; omega) (by omega) (fun b hb => by have := (htb b hb).2; omega) (by simp [cutT]; omega)
        have m2X : H2[X]? = some (.cells 0 false [sv, o, tv]) := (u3 X (by omega) fun e => by have := (hvb X e).1; omega).trans jX
        have H3X : (H2.set X (.cells 0 false [sv, o, tv']))[X]? = some (.cells 0 false [sv, o, tv']) := List.getElem?_set_self (by omega)
        have H3f : ∀ b, b ≠ X → (H2.set X (.cells 0 false [sv, o, tv']))[b]? = H2[b]? := fun b hb => List.getElem?_set_ne fun e => hb e.symm
        have H3l : (H2.set X (.cells 0 false [sv, o, tv'])).length = H2.length := by simp
        have ko3 : Own true N1 (H2.set X (.cells 0 false [sv, o, tv'])) trees 1 i2 vals := ko.keep fun b hb hbv => by
          have h1 := (htb b hbv).1
          rw [H3f b (by omega), u3 b (by omega) fun e => (hvb b e).2.2 hbv]
          exact jf b hb
        obtain ⟨H3, hH3⟩ : ∃ H3, H2.set X (.cells 0 false [sv, o, tv']) = H3 := ⟨_, rfl⟩
        rw [hH3] at H3X H3f H3l ko3
        obtain ⟨v', sl1, sl2⟩ := a3.take (m := min tr.length 30) (by omega)
        have hmt : tr.take (min tr.length 30) = tr.take 30 := by
          rcases Nat.le_total tr.length 30 with h | h
          · rw [Nat.min_eq_left h, List.take_of_length_le h, List.take_of_length_le (Nat.le_refl _)]
          · rw [Nat.min_eq_right h]
        rw [hmt] at sl2
        have hmin3 := minV_i (tr.length : Int) 30
        have hmm3 : min (tr.length : Int) 30 = ((min tr.length 30 : Nat) : Int) := by omega
        rw [hmm3] at hmin3
        obtain ⟨trees', H4, z1, z2, z3, z4, z5⟩ := Own.app1 (bytes := 24) (x := [v']) ko3 rfl (by simp [sl2.one]) (by omega) (by omega)
        have jo1 := Own.one jo
        have jo2 := Own.cells jo
        have jo3 := Own.part jo
        have ko1 := Own.one z2
        simp [-List.getD_eq_getElem?_getD, -Int.ofNat_toNat, -getElem?_pos, er110_0, er110_1, er110_2, er110_3, er110_4, er110_5, er110_6, er110_8, er110_9, er110_10, er110_11, er110_12, er110_13, er110_14, er110_15, er110_17, er110_18, er110_19, er110_21, er110_22, er110_23, er110_24, er110_25, er110_27, er110_28, er110_29, er110_30, er110_31, er110_32, er110_33, er110_34, jX, jo1, jo2, jo3, u1, m2X, u5, u6, setAt, hH3, a1, a2, x1, x2, foldV, hmin3, sl1, sl2.one, sl2.cells, sl2.part, z1, hiw]
        have hct : cutT (ts.take i2) ++ [tr.take 30] = cutT (ts.take (i2 + 1)) := by unfold cutT; rw [List.take_succ_eq_append_getElem hlt, List.map_append, htr]; rfl
        refine next_mk (m2 - 1) (by omega) ⟨i2 + 1, trees', tv', _, _, _, _, H4, vals ++ [v'], by omega, fun b hb hbX => ?_, ?_, by omega, z2, ?_, ?_, rfl⟩
        · rw [z3 b (by omega) fun e => by have := (htb b e).1; omega, H3f b hbX, u3 b (by omega) fun e => by have := (hvb b e).1; omega, jf b (by omega)]
          exact kf b hb hbX
        · rw [z3 X (by omega) fun e => by have := (htb X e).1; omega]; exact H3X
        · rw [← hct]
          refine snoc2 kv ?_ sl2
          have := Own.cl ko
          simp [cutT]; omega
        · rw [← hct, List.map_append]
          refine (show OwnX (blkOf trees) true true 3 N1 H2 tv' _ from u2).keep (fun b hPb hb hE => ?_) (by omega) fun b hb => ?_
          · rw [z3 b (by omega) hE, H3f b (by omega)]
          · rcases z5 b hb with h | h
            · exact .inl h
            · exact .inr (by omega)
    · refine mpG (G := ?G3) ?ha3 ?hb3
      case ha3 =>
        by_cases hlt2 : i2 < ts.length
        · have hlt' : (i2 : Int) < ts.length := by omega
          have h8 : ¬ i2 < 10 := fun h => hlt ⟨hlt2, h⟩
          have h8' : ¬ (i2 : Int) < 10 := by omega
          intro hk
          simp [-List.getD_eq_getElem?_getD, -Int.ofNat_toNat, -getElem?_pos, er110_0, er110_1, er110_2, er110_3, er110_4, er110_5, er110_6, er110_8, er110_9, er110_10, er110_11, er110_12, er110_13, er110_14, er110_15, er110_17, er110_18, er110_19, er110_21, er110_22, er110_23, er110_24, er110_25, er110_27, er110_28, er110_29, er110_30, er110_31, er110_32, er110_33, er110_34, T3, k1, hlt', hlt2, h8', h8, setAt, get_at, get_at0, set_at, set_at0]
          exact hk
        · have hlt' : ¬ (i2 : Int) < ts.length := by omega
          intro hk
          simp [-List.getD_eq_getElem?_getD, -Int.ofNat_toNat, -getElem?_pos, er110_0, er110_1, er110_2, er110_3, er110_4, er110_5, er110_6, er110_8, er110_9, er110_10, er110_11, er110_12, er110_13, er110_14, er110_15, er110_17, er110_18, er110_19, er110_21, er110_22, er110_23, er110_24, er110_25, er110_27, er110_28, er110_29, er110_30, er110_31, er110_32, er110_33, er110_34, T3, k1, hlt', hlt2, setAt, get_at, get_at0, set_at, set_at0]
          exact hk
      clear hlt
      obtain ⟨tc, htc⟩ : ∃ tc, cutT (ts.take i2) = tc := ⟨_, rfl⟩
      have htn : tc.length ≤ 10 := by rw [← htc]; simp [cutT]; omega
      have hte : ∀ c ∈ tc, c.length ≤ 30 := by
        intro c hc
        rw [← htc] at hc
        unfold cutT at hc
        obtain ⟨q, _, rfl⟩ := List.mem_map.1 hc
        simp; omega
      have hvl : vals.length = tc.length := by
        have := Own.cl ko
        rw [← htc]; simp [cutT]; omega
      rw [htc] at kv kx
      have hi2 : i2 = tc.length := by have := Own.cl ko; omega
      obtain ⟨Y, hY⟩ : ∃ Y, K.length = Y := ⟨_, rfl⟩
      refine pc_loopI (fun m st => ∃ (i3 : Nat) (cv p25 : AV) (M : Heap), i3 + m = min cs.length 30 ∧ (∀ b, b < Y → M[b]? = K[b]?) ∧ M[Y]? = some (.cells 0 false [.int .i64 e, cv]) ∧ Y + 1 ≤ M.length ∧ Own true (Y + 1) M cv 6 i3 (cI (cs.take i3).flatten) ∧
        st = ([.agg [S, U], tV, .agg [.int .i64 e, C], .ptr 0 0 0, .ptr 1 0 0, .bool false, .bool true, .ptr X 0 0, .int .i64 i, trees, .int .i64 i2, p11, p12, .ptr Y 0 0, .int .i64 i3, .un, .un, .un, .un, .un, .un, .un, .bool false, .bool false, p24, p25, .un], M)) (min cs.length 30)
        ⟨0, .nils, .un, K ++ [.cells 0 false [.int .i64 e, .nils]], by simp, fun b hb => List.getElem?_append_left (by omega), by rw [← hY, get_at0]; rfl, by simp [hY], own_nil _ _ _, by simp [hY]⟩ ?_
      rintro m4 st4 ⟨i3, cv, p25, M, hi3, mf, mY, mN, mo, rfl⟩
      have hX1 : X + 1 ≤ N1 := by omega
      have m0 : M[0]? = some (.cells 0 false [S, U]) := (mf 0 (by omega)).trans k0
      have m1 : M[1]? = some (.cells 0 false [.int .i64 e, C]) := (mf 1 (by omega)).trans k1
      have mX : M[X]? = some (.cells 0 false [sv, o, tv]) := (mf X (by omega)).trans kX
      have c1' := Own.one mo
      have c2' := Own.cells mo
      have c3' := Own.part mo
      by_cases hlt : i3 < cs.length ∧ i3 < 30
      · obtain ⟨hlt, h8⟩ := hlt
        have hlt' : (i3 : Int) < cs.length := by omega
        have h8' : (i3 : Int) < 30 := by omega
        have hiw := wrap1 h8 (by omega)
        obtain ⟨e1', e2'⟩ := hC.at (by omega) hlt
        have hci : cs[i3].length = 6 := hC.1 _ (List.getElem_mem hlt)
        obtain ⟨n0, n1, n2, n3, n4, n5, hvv⟩ : ∃ n0 n1 n2 n3 n4 n5, cs[i3] = [n0, n1, n2, n3, n4, n5] := by
          match hq : cs[i3], hci with
          | [n0, n1, n2, n3, n4, n5], _ => exact ⟨n0, n1, n2, n3, n4, n5, rfl⟩
        rw [hvv] at e2'
        have cI6 : cI [n0, n1, n2, n3, n4, n5] = [.int .i64 n0, .int .i64 n1, .int .i64 n2, .int .i64 n3, .int .i64 n4, .int .i64 n5] := rfl
        rw [cI6] at e2'
        obtain ⟨o5, J5, z1, z2, z3, z4, z5⟩ := Own.app1 (bytes := 48) (x := [.int .i64 n0, .int .i64 n1, .int .i64 n2, .int .i64 n3, .int .i64 n4, .int .i64 n5]) mo rfl rfl mN (by omega)
        have hcb : ∀ b, b < Y + 1 → blkOf cv ≠ some b := fun b hb e => by have := (Own.blk mo e).1; omega
        have j1 : J5[1]? = some (.cells 0 false [.int .i64 e, C]) := (z3 1 (by omega) (hcb 1 (by omega))).trans m1
        have jY : J5[Y]? = some (.cells 0 false [.int .i64 e, cv]) := (z3 Y (by omega) (hcb Y (by omega))).trans mY
        have l1M : (M ++ [Ob.cells 0 false [.int .i64 n0, .int .i64 n1, .int .i64 n2, .int .i64 n3, .int .i64 n4, .int .i64 n5]])[1]? = some (.cells 0 false [.int .i64 e, C]) := (List.getElem?_append_left (by omega)).trans m1
        have lYM : (M ++ [Ob.cells 0 false [.int .i64 n0, .int .i64 n1, .int .i64 n2, .int .i64 n3, .int .i64 n4, .int .i64 n5]])[Y]? = some (.cells 0 false [.int .i64 e, cv]) := (List.getElem?_append_left (by omega)).trans mY
        have zo1 := Own.one z2
        have zo2 := Own.cells z2
        simp [-List.getD_eq_getElem?_getD, -Int.ofNat_toNat, -getElem?_pos, er110_0, er110_1, er110_2, er110_3, er110_4, er110_5, er110_6, er110_8, er110_9, er110_10, er110_11, er110_12, er110_13, er110_14, er110_15, er110_17, er110_18, er110_19, er110_21, er110_22, er110_23, er110_24, er110_25, er110_27, er110_28, er110_29, er110_30, er110_31, er110_32, er110_33, er110_34, m1, mY, c1', c2', c3', v3, hlt', hlt, h8', h8, e1', e2', z1, j1, jY, l1M, lYM, zo1, zo2, setAt, hiw]
        refine next_mk (m4 - 1) (by omega) ⟨i3 + 1, o5, _, _, by omega, fun b hb => by rw [List.getElem?_set_ne (by omega), z3 b (by omega) (hcb b (by omega))]; exact mf b hb, List.getElem?_set_self (by omega), by simp; omega, ?_, rfl⟩
        have hcy : cI (cs.take (i3 + 1)).flatten = cI (cs.take i3).flatten ++ [.int .i64 n0, .int .i64 n1, .int .i64 n2, .int .i64 n3, .int .i64 n4, .int .i64 n5] := by
          rw [List.take_succ_eq_append_getElem hlt, List.flatten_append, hvv, cI_append]; simp [cI]
        rw [hcy]
        exact Own.keep z2 fun b hb hbv => List.getElem?_set_ne (by have := (Own.blk z2 hbv).1; omega)
      · refine mpG (G := ?G4) ?ha4 ?hb4
        case ha4 =>
          by_cases hlt2 : i3 < cs.length
          · have hlt' : (i3 : Int) < cs.length := by omega
            have h8 : ¬ i3 < 30 := fun h => hlt ⟨hlt2, h⟩
            have h8' : ¬ (i3 : Int) < 30 := by omega
            intro hk
            simp [-List.getD_eq_getElem?_getD, -Int.ofNat_toNat, -getElem?_pos, er110_0, er110_1, er110_2, er110_3, er110_4, er110_5, er110_6, er110_8, er110_9, er110_10, er110_11, er110_12, er110_13, er110_14, er110_15, er110_17, er110_18, er110_19, er110_21, er110_22, er110_23, er110_24, er110_25, er110_27, er110_28, er110_29, er110_30, er110_31, er110_32, er110_33, er110_34, m1, v3, hlt', hlt2, h8', h8, mX, (show sv.one = true from w1)]
            exact hk
          · have hlt' : ¬ (i3 : Int) < cs.length := by omega
            intro hk
            simp [-List.getD_eq_getElem?_getD, -Int.ofNat_toNat, -getElem?_pos, er110_0, er110_1, er110_2, er110_3, er110_4, er110_5, er110_6, er110_8, er110_9, er110_10, er110_11, er110_12, er110_13, er110_14, er110_15, er110_17, er110_18, er110_19, er110_21, er110_22, er110_23, er110_24, er110_25, er110_27, er110_28, er110_29, er110_30, er110_31, er110_32, er110_33, er110_34, m1, v3, hlt', hlt2, mX, (show sv.one = true from w1)]
            exact hk
        obtain ⟨cc, hcc⟩ : ∃ cc, cs.take 30 = cc := ⟨_, rfl⟩
        have hccn : cc.length ≤ 30 := by rw [← hcc]; simp; omega
        have hct : cs.take i3 = cc := by
          rw [← hcc]
          rcases Nat.lt_or_ge i3 cs.length with h | h
          · have : i3 = 30 := by omega
            rw [this]
          · rw [List.take_of_length_le h, List.take_of_length_le (by omega)]
        have hc6 : ∀ b ∈ cc, b.length = 6 := fun b hb => hC.1 b (by rw [← hcc] at hb; exact List.mem_of_mem_take hb)
        have hil : i3 = cc.length := by rw [← hct, List.length_take]; omega
        rw [hct, hil] at mo
        have ht3 : ∀ a ∈ tc, ∀ b ∈ a, b.length = 3 := fun a ha => by
          obtain ⟨j, hj⟩ := List.mem_iff_getElem?.1 ha
          have hjl := (List.getElem?_eq_some_iff.1 hj).1
          exact (kv j _ a (List.getElem?_eq_getElem (by omega)) hj).1
        have hptl : (tc.flatMap fun t => (t.length : Int) :: t.flatten).length ≤ tc.length * 91 := by
          clear hvl kv kx hi2 htc htn
          induction tc with
          | nil => simp
          | cons a tc ih =>
            have h1 := ih (fun c hc => hte c (List.mem_cons_of_mem _ hc)) (fun a ha => ht3 a (List.mem_cons_of_mem _ ha))
            have h2 := hte a List.mem_cons_self
            have h3 := flat_len (ht3 a List.mem_cons_self)
            simp only [List.flatMap_cons, List.length_append, List.length_cons]
            omega
        have hsl2 : (sl.flatMap putRow).length ≤ sl.length * 6 := by
          clear fp hsl hsn
          induction sl with
          | nil => simp
          | cons a sl ih =>
            have h1 := ih fun c hc => hse c (List.mem_cons_of_mem _ hc)
            have h2 := hse a List.mem_cons_self
            simp only [List.flatMap_cons, List.length_append, List.length_cons, putRow]
            omega
        have lS : (putRows sl).length = (sl.flatMap putRow).length + 1 := rfl
        have lU : (putRow tl).length = tl.length + 1 := rfl
        have lT : (putTrees tc).length = (tc.flatMap fun t => (t.length : Int) :: t.flatten).length + 1 := rfl
        have lC := flat_len hc6
        have eqN : putC (.narrow sl tl tc) = [2] ++ putRows sl ++ putRow tl ++ putTrees tc := by simp [putC]
        have eqC : putC (.refusal e cc) = [6, e] ++ ((cc.length : Int) :: cc.flatten) := rfl
        have lN : (putC (.narrow sl tl tc)).length < 100000 := by rw [eqN]; simp only [List.length_append, List.length_cons, List.length_nil]; omega
        have lR : (putC (.refusal e cc)).length < 100000 := by rw [eqC]; simp only [List.length_append, List.length_cons, List.length_nil]; omega

        have fpM : OwnR true (X + 1) M sv sl := fp.keep (fun b hPb hb => by rw [mf b (by omega)]; exact kf b (by omega) (by omega)) (by omega)
        have foM : OwnI false 3 M o tl := Own.keep fo fun b hb hbv => by
          have h1 := (Own.blk fo hbv).1
          have h2 := eb b hbv
          rw [mf b (by omega)]; exact kf b (by omega) (by omega)
        have kxM : OwnG true true 3 N1 M tv (tc.map (eT 3)) := OwnG.keep kx.g (fun b hPb hb => mf b (by omega)) (by omega)
        have koM : Own true N1 M trees 1 i2 vals := ko.keep fun b hb hbv => mf b (by omega)
        rw [hi2] at koM
        have hvc : AV.closeds vals = true := by
          rw [closeds_iff]
          intro j x hx
          have hj := (List.getElem?_eq_some_iff.1 hx).1
          exact (kv j x _ hx (List.getElem?_eq_getElem (by omega))).closed
        obtain ⟨bsS, hbS, sS⟩ := OwnR.all fpM
        obtain ⟨bsT, hbT, sT⟩ := OwnG.all kxM
        have eT3 : rv true (tc.map (eT 3)).length 1 ((tc.map (eT 3)).map fun x => rv true x.1 3 x.2) = rT tc := by rw [List.map_map, List.length_map]; rfl
        rw [eT3] at sT
        have sO : ∀ K, Gr M K → SeesF 2 K o (vI tl) (blkOf o).toList := fun K gK => by
          have := ((Own.vw foM).gr gK).seesF (closeds_cI tl)
          simpa [rv] using this
        have sR : ∀ K, Gr M K → SeesF 2 K trees (rv true tc.length 1 vals) (blkOf trees).toList := fun K gK => ((Own.vw koM).gr gK).seesF hvc
        have sC : ∀ K, Gr M K → SeesF 2 K cv (rC 6 cc) (blkOf cv).toList := fun K gK => ((Own.vw mo).gr gK).seesF (closeds_cI _)
        have isTr : IsT (rv true tc.length 1 vals) tc := isT_rv true hvl kv
        have hX1 : X + 1 ≤ N1 := by omega
        have hMl : Y + 1 ≤ M.length := mN
        have hbO : ∀ b ∈ (blkOf o).toList, b < M.length ∧ 3 ≤ b := fun b hb => ⟨(Own.blk foM (by simpa using hb)).2, (Own.blk foM (by simpa using hb)).1⟩
        have hbR : ∀ b ∈ (blkOf trees).toList, b < M.length := fun b hb => (Own.blk koM (by simpa using hb)).2

        have hcv1 : IsCV φ (cvV φ (.narrow sl tl tc)) (.narrow sl tl tc) := isCV_cvV ht3
        have hcv2 : IsCV φ (cvV φ (.refusal e cc)) (.refusal e cc) := isCV_cvV hc6
        have c1 := (g.cints hcv1 (by omega)).eq
        have c2 := (g.cints hcv2 (by omega)).eq
        have c3 := (w_PutRows g.putRows g.putRow (isRows_rR sl) (by omega)).eq
        have c4 := (w_PutRow g.putRow (isI_v tl) (by omega)).eq
        have c5 := (w_PutTrees g.putTrees isTr (by omega)).eq
        obtain ⟨C', sl1, sl2⟩ := hC.take (m := min cs.length 30) (by omega)
        have hmt : cs.take (min cs.length 30) = cc := by
          rw [← hcc]
          rcases Nat.le_total cs.length 30 with h | h
          · rw [Nat.min_eq_left h, List.take_of_length_le h, List.take_of_length_le (Nat.le_refl _)]
          · rw [Nat.min_eq_right h]
        rw [hmt] at sl2
        have hmin3 := minV_i (cs.length : Int) 30
        have hmm3 : min (cs.length : Int) 30 = ((min cs.length 30 : Nat) : Int) := by omega
        rw [hmm3] at hmin3
        have c6 := (w_PutCuts g.putCuts sl2 (by omega)).eq
        have C1 := sl2.one
        have C2 := sl2.closed
        have r1 := (g.cread (isI_v (putC (.narrow sl tl tc))) (by omega)).eq
        have r2 := (g.cread (isI_v (putC (.refusal e cc))) (by omega)).eq
        have hr1 : readR (putC (.narrow sl tl tc)) = some (.narrow sl tl tc) := (readR_put _ _).2 ⟨rfl, ht3⟩
        have hr2 : readR (putC (.refusal e cc)) = some (.refusal e cc) := (readR_put _ _).2 ⟨rfl, hc6⟩
        rw [hr1, readE_ok hr1] at r1
        rw [hr2, readE_ok hr2] at r2
        simp only [cvO] at r1 r2
        have s1' := (g.csame (isI_v (putC (.narrow sl tl tc))) (isI_v (putC (.narrow sl tl tc))) (by omega)).eq
        have s2' := (g.csame (isI_v (putC (.refusal e cc))) (isI_v (putC (.refusal e cc))) (by omega)).eq
        simp only [decide_true] at s1' s2'
        obtain ⟨V1a, V1b, V1c⟩ := cvV_ne φ (.narrow sl tl tc)
        obtain ⟨V2a, V2b, V2c⟩ := cvV_ne φ (.refusal e cc)
        have V1d := cvV_closed φ (.narrow sl tl tc)
        have V2d := cvV_closed φ (.refusal e cc)
        have hi2' : AV.isNilK 4 .nili = some true := rfl
        have hV1 : cvV φ (.narrow sl tl tc) = .iface (φ 91) (.agg [rR sl, vI tl, rT tc]) := rfl
        have hV2 : cvV φ (.refusal e cc) = .iface (φ 95) (.agg [.int .i64 e, rC 6 cc]) := rfl

        have nilL := fun K => (seesL_nil K)
        have vN : viewA M [.iface (φ 91) (.agg [sv, o, tv])] = some ([cvV φ (.narrow sl tl tc)], _) := (SeesL.cons (SeesF.iface (SeesL.agg (SeesL.cons (sS M (Gr.refl M)) (SeesL.cons ((sO M (Gr.refl M)).mono (by omega)) (SeesL.cons (sT M (Gr.refl M)) ((nilL _).mono (by omega)) (by omega)) (by omega)) (by omega))) _) ((nilL _).mono (by omega)) (by omega)).va (by omega)
        obtain ⟨M1, hM1⟩ : ∃ M1, M1 = frzH (bsS ++ ((blkOf o).toList ++ (bsT ++ [])) ++ []) M := ⟨_, rfl⟩
        rw [← hM1] at vN
        have g1 : Gr M M1 := by rw [hM1]; exact (Gr.refl M).frz _
        have l1 : M1.length = M.length := by rw [hM1, frz_len]
        obtain ⟨roY, nY⟩ := g1 _ _ _ _ mY
        have vC : viewA M1 [.iface (φ 95) (.agg [.int .i64 e, cv])] = some ([cvV φ (.refusal e cc)], _) := (SeesL.cons (SeesF.iface (SeesL.agg (SeesL.cons ((seesF_closed rfl).mono (e := 2) (by omega)) (SeesL.cons (sC M1 g1) ((nilL _).mono (by omega)) (by omega)) (by omega))) _) ((nilL _).mono (by omega)) (by omega)).va (by omega)
        obtain ⟨M2, hM2⟩ : ∃ M2, M2 = frzH ([] ++ ((blkOf cv).toList ++ []) ++ []) M1 := ⟨_, rfl⟩
        rw [← hM2] at vC
        have g2 : Gr M M2 := by rw [hM2]; exact g1.frz _
        have l2 : M2.length = M.length := by rw [hM2, frz_len, l1]
        obtain ⟨roX, n2⟩ := g2 _ _ _ _ mX
        have n2d : (M2 ++ [Ob.dead])[X]? = some (.cells 0 roX [sv, o, tv]) := (List.getElem?_append_left (lt_of_get n2)).trans n2
        have n2c : (M2 ++ [Ob.cells 0 false [.int .i64 2]])[X]? = some (.cells 0 roX [sv, o, tv]) := (List.getElem?_append_left (lt_of_get n2)).trans n2
        have vS : viewA (M2 ++ [Ob.dead]) [sv] = some ([rR sl], frzH (bsS ++ []) (M2 ++ [Ob.dead])) := (SeesL.cons (sS _ (g2.app _)) ((nilL _).mono (by omega)) (by omega)).va (by omega)
        obtain ⟨M3, hM3⟩ : ∃ M3, M3 = frzH (bsS ++ []) (M2 ++ [Ob.dead]) := ⟨_, rfl⟩
        rw [← hM3] at vS
        have l3 : M3.length = M2.length + 1 := by rw [hM3, frz_len]; simp
        have g3 : Gr M M3 := by rw [hM3]; exact (g2.app _).frz _
        have n3 : M3[X]? = some (.cells 0 roX [sv, o, tv]) := by
          rw [hM3, frz_out _ fun hm => ?_]
          · exact n2d
          · rw [List.append_nil] at hm
            have := (hbS X hm).2; omega
        obtain ⟨M4, hM4⟩ : ∃ M4, M4 = M3.set M2.length (.cells 0 false [.int .i64 2]) := ⟨_, rfl⟩
        have hgk : List.getD (M2 ++ [Ob.cells 0 false [.int .i64 2]]) M2.length Ob.dead = .cells 0 false [.int .i64 2] := by rw [List.getD_eq_getElem?_getD, get_at0]; rfl
        have g4 : Gr M M4 := by
          rw [hM4]
          exact g3.keepP (P := M.length) (Nat.le_refl _) fun b hb => List.getElem?_set_ne (by omega)
        have l4 : M4.length = M2.length + 1 := by rw [hM4]; simp [l3]
        have n4 : M4[X]? = some (.cells 0 roX [sv, o, tv]) := by rw [hM4, List.getElem?_set_ne (by omega)]; exact n3
        have w4 : OwnI false M2.length M4 (.sl M2.length 0 0 1 1 1 true) [2] := .inr ⟨by simp, M2.length, 0, true, rfl, Nat.le_refl _, rfl, by rw [hM4, List.getElem?_set_self (by omega)]; rfl⟩
        obtain ⟨o5, M5, x5, w5, k5, l5⟩ := ownI_appI w4 (isI_v (putRows sl)) (by omega) (by simp; omega)
        have g5 : Gr M M5 := g4.keepP (by omega) k5
        have n5 : M5[X]? = some (.cells 0 roX [sv, o, tv]) := (k5 X (by omega)).trans n4
        have v6 : viewA M5 [o] = some ([vI tl], frzH ((blkOf o).toList ++ []) M5) := (SeesL.cons (sO _ g5) ((nilL _).mono (by omega)) (by omega)).va (by omega)
        obtain ⟨o7, M7, x7, w7, g7, l7⟩ := app_frz (bs := (blkOf o).toList ++ []) w5 (by omega) g5 (fun b hb => by rw [List.append_nil] at hb; exact (hbO b hb).1) (isI_v (putRow tl)) (by omega) (by simp only [List.length_append, List.length_cons, List.length_nil]; omega)
        obtain ⟨M6, hM6⟩ : ∃ M6, M6 = frzH ((blkOf o).toList ++ []) M5 := ⟨_, rfl⟩
        rw [← hM6] at v6 x7
        have v8 : viewA M7 [trees] = some ([rv true tc.length 1 vals], frzH ((blkOf trees).toList ++ []) M7) := (SeesL.cons (sR _ g7) ((nilL _).mono (by omega)) (by omega)).va (by omega)
        obtain ⟨o9, M9, x9, w9, g9, l9⟩ := app_frz (bs := (blkOf trees).toList ++ []) w7 (by omega) g7 (fun b hb => by rw [List.append_nil] at hb; exact hbR b hb) (isI_v (putTrees tc)) (by omega) (by simp only [List.length_append, List.length_cons, List.length_nil]; omega)
        obtain ⟨M8, hM8⟩ : ∃ M8, M8 = frzH ((blkOf trees).toList ++ []) M7 := ⟨_, rfl⟩
        rw [← hM8] at v8 x9
        rw [← eqN] at w9
        have v10 := (Own.vw w9).r2 (closeds_cI _) (vI (putC (.narrow sl tl tc))) (isI_v _).closed
        obtain ⟨ro1, n9⟩ := g9 _ _ _ _ m1
        have n9c : (M9 ++ [Ob.cells 0 false [.int .i64 6, .int .i64 e]])[1]? = some (.cells 0 ro1 [.int .i64 e, C]) := (List.getElem?_append_left (lt_of_get n9)).trans n9
        have n9d : (M9 ++ [Ob.dead])[1]? = some (.cells 0 ro1 [.int .i64 e, C]) := (List.getElem?_append_left (lt_of_get n9)).trans n9
        have hgk9 : List.getD (M9 ++ [Ob.cells 0 false [.int .i64 6, .int .i64 e]]) M9.length Ob.dead = .cells 0 false [.int .i64 6, .int .i64 e] := by rw [List.getD_eq_getElem?_getD, get_at0]; rfl
        obtain ⟨o11, M11, x11, w11, k11, l11⟩ := ownI_appI (own_lit false M9.length M9 (Nat.le_refl _) [6, e] (by simp) [.int .i64 6, .int .i64 e] rfl 2 rfl) (isI_v ((cc.length : Int) :: cc.flatten)) (by simp) (by simp only [List.length_cons, List.length_nil]; omega)
        have n11 : M11[1]? = some (.cells 0 ro1 [.int .i64 e, C]) := (k11 1 (lt_of_get n9)).trans n9c
        rw [← eqC] at w11
        have v12 := (Own.vw w11).r2 (closeds_cI _) (vI (putC (.refusal e cc))) (isI_v _).closed
        simp only [rv_false] at v10 v12
        have u1 := fun K : Heap => viewA_closed (H := K) (vs := [vI (putC (.narrow sl tl tc))]) (by rw [closeds_cons, (isI_v (putC (.narrow sl tl tc))).closed]; rfl)
        have u2 := fun K : Heap => viewA_closed (H := K) (vs := [vI (putC (.refusal e cc))]) (by rw [closeds_cons, (isI_v (putC (.refusal e cc))).closed]; rfl)
        have u3 := fun K : Heap => viewA_closed (H := K) (vs := [cvV φ (.narrow sl tl tc)]) (by rw [closeds_cons, V1d]; rfl)
        have u4 := fun K : Heap => viewA_closed (H := K) (vs := [cvV φ (.refusal e cc)]) (by rw [closeds_cons, V2d]; rfl)
        have u5 := fun K : Heap => viewA_closed (H := K) (vs := [vI (putC (.narrow sl tl tc)), vI (putC (.narrow sl tl tc))]) (by rw [closeds_cons, closeds_cons, (isI_v (putC (.narrow sl tl tc))).closed]; rfl)
        have u6 := fun K : Heap => viewA_closed (H := K) (vs := [vI (putC (.refusal e cc)), vI (putC (.refusal e cc))]) (by rw [closeds_cons, closeds_cons, (isI_v (putC (.refusal e cc))).closed]; rfl)
        have u7 := fun K : Heap => viewA_closed (H := K) (vs := [C']) (by rw [closeds_cons, C2]; rfl)
        have t1 := (isI_v (putC (.narrow sl tl tc))).one
        have t2 := (isI_v (putC (.refusal e cc))).one
        have oS1 := fpM.one
        have oS2 := fpM.cells
        have oS3 := fpM.part
        have oT1 := kxM.one
        have oT2 := kxM.cells
        have oT3 := kxM.part
        have oO1 := Own.one foM
        have oO2 := Own.cells foM
        have oO3 := Own.part foM
        generalize cvV φ (.narrow sl tl tc) = V1 at *
        generalize cvV φ (.refusal e cc) = V2 at *
        generalize putC (.narrow sl tl tc) = P1 at *
        generalize putC (.refusal e cc) = P2 at *
        generalize hPC : (cc.length : Int) :: cc.flatten = PC at *
        generalize rR sl = RS at *
        generalize rv true tc.length 1 vals = RT at *
        generalize putRows sl = PS at *
        generalize putRow tl = PU at *
        generalize putTrees tc = PT at *
        generalize vI tl = TL at *
        simp [-List.getD_eq_getElem?_getD, -Int.ofNat_toNat, -getElem?_pos, er110_0, er110_1, er110_2, er110_3, er110_4, er110_5, er110_6, er110_8, er110_9, er110_10, er110_11, er110_12, er110_13, er110_14, er110_15, er110_17, er110_18, er110_19, er110_21, er110_22, er110_23, er110_24, er110_25, er110_27, er110_28, er110_29, er110_30, er110_31, er110_32, er110_33, er110_34, mX, nY, oS1, oS2, oS3, oT1, oT2, oT3, oO1, oO2, oO3, c1', c2', c3', vN, vC, c1, c2, n2, n2d, n2c, vS, c3, n3, hgk, hM4.symm, n4, x5, n5, v6, c4, x7, v8, c5, x9, u1, r1, u2, r2, V1a, V1b, V1c, V2a, V2b, V2c, hi2', v10, s1', n9, n9c, n9d, v3, foldV, hmin3, sl1, u7, c6, hgk9, x11, n11, v12, s2', get_at, get_at0, set_at, set_at0]
        refine w_inv g.td g.kinds hcv1 (fun Q1 a1' a2' => ?_)
        simp only [hid_k]
        refine ⟨fun b hb => by simp at hb, ?_⟩
        simp [-List.getD_eq_getElem?_getD, -Int.ofNat_toNat, -getElem?_pos, er110_0, er110_1, er110_2, er110_3, er110_4, er110_5, er110_6, er110_8, er110_9, er110_10, er110_11, er110_12, er110_13, er110_14, er110_15, er110_17, er110_18, er110_19, er110_21, er110_22, er110_23, er110_24, er110_25, er110_27, er110_28, er110_29, er110_30, er110_31, er110_32, er110_33, er110_34, kindC, V1a, V1b, V2a, V2b]
        refine w_inv g.td g.kinds hcv2 (fun Q2 b1' b2' => ?_)
        simp only [hid_k]
        refine ⟨fun b hb => by simp at hb, ?_⟩
        simp [-List.getD_eq_getElem?_getD, -Int.ofNat_toNat, -getElem?_pos, er110_0, er110_1, er110_2, er110_3, er110_4, er110_5, er110_6, er110_8, er110_9, er110_10, er110_11, er110_12, er110_13, er110_14, er110_15, er110_17, er110_18, er110_19, er110_21, er110_22, er110_23, er110_24, er110_25, er110_27, er110_28, er110_29, er110_30, er110_31, er110_32, er110_33, er110_34, kindC, V1a, V1b, V2a, V2b, u3, u4, c1, c2, u5, u6, s1', s2', resK, resVs, resV, pack]
end Go.Ai.G
/- Shapes of what comes in: bags, trees, traces. -/
namespace Go.Ai.G
open Go.Ai
open Go.ChangeShapes Go.WideShapes Go.ChangeAt Go.RowKit
set_option linter.unusedVariables false
variable {H : Type} {enc : TypeId × Value → H} {P : Program} {W : World}
/-- So many numbers. -/
def QN (k : Nat) : List (List AV → Prop) := List.replicate k QI
theorem QL_ints : ∀ (k : Nat) (avs : List AV), QL (QN k) avs → ∃ xs : List Int, avs = cI xs ∧ xs.length = k
  | 0, avs, h => ⟨[], h, rfl⟩
  | k + 1, avs, h => by
    obtain ⟨a, b, rfl, ⟨n, rfl⟩, hb⟩ := h
    obtain ⟨xs, rfl, h2⟩ := QL_ints k b hb
    exact ⟨n :: xs, rfl, by simp [h2]⟩
theorem QS_N {k : Nat} {av : AV} (h : QS k (QL (QN k)) [av]) : ∃ xs, IsN k av xs := by
  obtain ⟨v, e, h⟩ := h
  cases e
  rcases h with rfl | ⟨rows, rfl, hc, hr⟩
  · exact ⟨[], fun x hx => by simp at hx, .inl ⟨rfl, rfl⟩⟩
  · have : ∃ xs : List (List Int), rows.length = xs.length ∧ rows.flatten = cI xs.flatten ∧ ∀ x ∈ xs, x.length = k := by
      clear hc
      induction rows with
      | nil => exact ⟨[], rfl, rfl, fun x hx => by simp at hx⟩
      | cons r rows ih =>
        obtain ⟨xs, h1, h2, h3⟩ := ih fun r hr' => hr r (List.mem_cons_of_mem _ hr')
        obtain ⟨z, rfl, hz⟩ := QL_ints k r (hr _ List.mem_cons_self).2
        refine ⟨z :: xs, by simp [h1], by rw [List.flatten_cons, List.flatten_cons, h2, cI_append], fun x hx => ?_⟩
        rcases List.mem_cons.1 hx with rfl | hx
        · exact hz
        · exact h3 x hx
    obtain ⟨xs, h1, h2, h3⟩ := this
    exact ⟨xs, h3, .inr (by rw [h1, h2])⟩
theorem QS_T {av : AV} (h : QS 1 (QS 3 (QL (QN 3))) [av]) : ∃ ts, IsT av ts := by
  obtain ⟨v, e, h⟩ := h
  cases e
  rcases h with rfl | ⟨rows, rfl, hc, hr⟩
  · exact ⟨[], .inl ⟨rfl, rfl⟩⟩
  · have : ∃ xs : List (List (List Int)), rows.length = xs.length ∧ rows.flatten.length = xs.length ∧ ∀ (j : Nat) x zs, rows.flatten[j]? = some x → xs[j]? = some zs → IsN 3 x zs := by
      clear hc
      induction rows with
      | nil => exact ⟨[], rfl, rfl, fun j x zs h => by simp at h⟩
      | cons r rows ih =>
        obtain ⟨xs, h1, h2, h3⟩ := ih fun r hr' => hr r (List.mem_cons_of_mem _ hr')
        obtain ⟨hl, hq⟩ := hr _ List.mem_cons_self
        obtain ⟨w, rfl, _⟩ := id hq
        obtain ⟨zs, hz⟩ := QS_N hq
        refine ⟨zs :: xs, by simp [h1], by simp [h2], fun j x z hx hzz => ?_⟩
        cases j with
        | zero => simp at hx hzz; subst hx hzz; exact hz
        | succ j => simp at hx hzz; exact h3 j x z hx hzz
    obtain ⟨xs, h1, h2, h3⟩ := this
    exact ⟨xs, .inr ⟨_, by rw [h1], h2, hc, h3⟩⟩
theorem openL_ints {i : TypeId} (hi : P.underlying i = some (.int .i64)) : ∀ k, OpenL enc P W (List.replicate k (i, 1)) (QN k)
  | 0 => .nil
  | k + 1 => .cons (openT_int hi) (openL_ints hi k)
theorem open_bags {t i s r : TypeId} {fl : Array Field} {v : Value} {d : DataW H} {ps : List MemPlace} (ht : P.underlying t = some (.struct fl)) (hst : isSt P t [(r, 1), (s, 1)] = true) (hi : P.underlying i = some (.int .i64)) (hs : P.underlying s = some (.slice i)) (hr : P.underlying r = some (.slice s))
    (ci : P.cellsOf i = 1) (cs : P.cellsOf s = 1) (hval : Value.okWide P W .any 0 t v) (h : DataW.Trod enc P W 0 (fun _ => true) true t v d ps) :
    ∃ (av bv : AV) (fs : List (List Int)) (es : List Int), IsRows av fs ∧ IsI bv es ∧ VR (muOf W) (.agg [av, bv]) v := by
  obtain ⟨avs, h1, h2, h3⟩ := open_argT ht (openT_struct hst rfl (.cons (openT_slice hr cs (by omega) (openT_slice hs ci (by omega) (openT_int hi))) (.cons (openT_slice hs ci (by omega) (openT_int hi)) .nil))) hval h
  obtain ⟨a, b, rfl, hf, c, e, rfl, hc, rfl⟩ := h3
  obtain ⟨x, rfl, _⟩ := id hc
  obtain ⟨y, rfl, _⟩ := id hf
  obtain ⟨es, he⟩ := QS.ints hc
  obtain ⟨fs, hfs⟩ := QS_rows hf
  exact ⟨y, x, fs, es, hfs, he, h1⟩
theorem open_trees {t s n i : TypeId} {v : Value} {d : DataW H} {ps : List MemPlace} (ht : P.underlying t = some (.slice s)) (hs : P.underlying s = some (.slice n)) (hn : isSt P n (List.replicate 3 (i, 1)) = true) (hi : P.underlying i = some (.int .i64)) (cs : P.cellsOf s = 1) (cn : P.cellsOf n = 3) (hval : Value.okWide P W .any 0 t v) (h : DataW.Trod enc P W 0 (fun _ => true) true t v d ps) :
    ∃ av ts, IsT av ts ∧ VR (muOf W) av v := by
  obtain ⟨av, h1, h2, h3⟩ := open_argS ht (openT_slice ht cs (by omega) (openT_slice hs cn (by omega) (openT_struct hn rfl (openL_ints hi 3)))) hval h
  obtain ⟨ts, hr⟩ := QS_T h3
  exact ⟨av, ts, hr, h1⟩
theorem open_trace {t s n i : TypeId} {fl : Array Field} {v : Value} {d : DataW H} {ps : List MemPlace} (ht : P.underlying t = some (.struct fl)) (hst : isSt P t [(i, 1), (s, 1)] = true) (hs : P.underlying s = some (.slice n)) (hn : isSt P n (List.replicate 6 (i, 1)) = true) (hi : P.underlying i = some (.int .i64)) (cn : P.cellsOf n = 6) (hval : Value.okWide P W .any 0 t v) (h : DataW.Trod enc P W 0 (fun _ => true) true t v d ps) :
    ∃ (e : Int) (av : AV) (cs : List (List Int)), IsN 6 av cs ∧ VR (muOf W) (.agg [.int .i64 e, av]) v := by
  obtain ⟨avs, h1, h2, h3⟩ := open_argT ht (openT_struct hst rfl (.cons (openT_int hi) (.cons (openT_slice hs cn (by omega) (openT_struct hn rfl (openL_ints hi 6))) .nil))) hval h
  obtain ⟨a, b, rfl, ⟨n', rfl⟩, c, e, rfl, hc, rfl⟩ := h3
  obtain ⟨x, rfl, _⟩ := id hc
  obtain ⟨cs, hcs⟩ := QS_N hc
  exact ⟨n', x, cs, hcs, h1⟩
end Go.Ai.G
