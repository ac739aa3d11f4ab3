/- A part of what the law leans on: the abstract machine, the contracts, the rows. -/
import Derived.Test.YtdpjeplagapdgaaK9
import Derived.Test.YtdpjeplagapdgaaK4
/- What is read is what was written. -/
namespace Go.Ai.G
open Go.Ai
set_option maxRecDepth 100000
set_option linter.unusedSimpArgs false
set_option linter.unusedVariables false
/-- The parser reads just what was put. -/
def Rds {α : Type} (p : List Int → Option (α × List Int)) (put : α → List Int) (ok : α → Prop) : Prop := ∀ l a t, p l = some (a, t) ↔ l = put a ++ t ∧ ok a
theorem rds_rep {α : Type} {p : List Int → Option (α × List Int)} {put : α → List Int} {ok : α → Prop} (h : Rds p put ok) : ∀ n, Rds (repP p n) (fun as => as.flatMap put) (fun as => as.length = n ∧ ∀ a ∈ as, ok a)
  | 0, l, as, t => by
    simp only [repP, Option.some.injEq, Prod.mk.injEq]
    constructor
    · rintro ⟨rfl, rfl⟩; exact ⟨rfl, rfl, fun a h => by simp at h⟩
    · rintro ⟨h1, h2, _⟩
      have : as = [] := List.length_eq_zero_iff.1 h2
      subst this
      exact ⟨rfl, h1⟩
  | n + 1, l, as, t => by
    have ih := rds_rep h n
    simp only [repP]
    constructor
    · intro e
      cases hp : p l with
      | none => rw [hp] at e; cases e
      | some y =>
        obtain ⟨a, l1⟩ := y
        rw [hp] at e
        simp only at e
        cases hr : repP p n l1 with
        | none => rw [hr] at e; cases e
        | some z =>
          obtain ⟨bs, l2⟩ := z
          rw [hr] at e
          simp only [Option.some.injEq, Prod.mk.injEq] at e
          obtain ⟨rfl, rfl⟩ := e
          obtain ⟨e1, e2⟩ := (h _ _ _).1 hp
          obtain ⟨e3, e4, e5⟩ := (ih _ _ _).1 hr
          refine ⟨by rw [e1, e3]; simp, by simp [e4], fun b hb => ?_⟩
          rcases List.mem_cons.1 hb with rfl | hb
          · exact e2
          · exact e5 b hb
    · rintro ⟨e1, e2, e3⟩
      cases as with
      | nil => simp at e2
      | cons a as =>
        have hp : p l = some (a, as.flatMap put ++ t) := (h _ _ _).2 ⟨by rw [e1]; simp, e3 a List.mem_cons_self⟩
        have hr : repP p n (as.flatMap put ++ t) = some (as, t) := (ih _ _ _).2 ⟨rfl, by simpa using e2, fun b hb => e3 b (List.mem_cons_of_mem _ hb)⟩
        rw [hp]; simp only; rw [hr]
theorem rds_row : Rds rowP putRow fun _ => True := fun l a t => by
  cases l with
  | nil => simp [rowP, cntP, putRow]
  | cons n r =>
    simp only [rowP, cntP_cons, Nat.div_one, putRow, List.cons_append, List.cons.injEq, and_true]
    constructor
    · intro h
      split at h
      · cases h
      · rename_i n' r' e
        split at e
        · rename_i hc
          cases e
          simp only [Option.some.injEq, Prod.mk.injEq] at h
          obtain ⟨rfl, rfl⟩ := h
          exact ⟨by rw [List.length_take]; omega, (List.take_append_drop _ _).symm⟩
        · cases e
    · rintro ⟨rfl, rfl⟩
      rw [if_pos ⟨by omega, by simp; omega⟩]
      simp
theorem rds_one : Rds oneP (fun x => [x]) fun _ => True := fun l a t => by
  cases l with
  | nil => simp [oneP]
  | cons n r => simp [oneP]
theorem rds_take (k : Nat) : Rds (takeP k) id fun a => a.length = k := fun l a t => by
  simp only [takeP, id]
  constructor
  · intro h
    split at h
    · rename_i hc
      simp only [Option.some.injEq, Prod.mk.injEq] at h
      obtain ⟨rfl, rfl⟩ := h
      exact ⟨(List.take_append_drop _ _).symm, by rw [List.length_take]; omega⟩
    · cases h
  · rintro ⟨rfl, rfl⟩
    rw [if_pos (by simp)]
    simp
theorem rds_cnt {α : Type} {p : List Int → Option (α × List Int)} {put : α → List Int} {ok : α → Prop} (h : Rds p put ok) (k : Nat) (hk : 0 < k) (hl : ∀ as : List α, (∀ a ∈ as, ok a) → as.length * k ≤ (as.flatMap put).length) :
    Rds (fun l => match cntP k l with
      | none => none
      | some (n, r) => repP p n r) (fun as => (as.length : Int) :: as.flatMap put) (fun as => ∀ a ∈ as, ok a) := fun l as t => by
  cases l with
  | nil => simp [cntP]
  | cons n r =>
    simp only [cntP_cons, List.cons_append, List.cons.injEq]
    constructor
    · intro e
      split at e
      · cases e
      · rename_i n' r' hc
        split at hc
        · rename_i hc'
          cases hc
          obtain ⟨e1, e2, e3⟩ := (rds_rep h _ _ _ _).1 e
          exact ⟨⟨by omega, e1⟩, e3⟩
        · cases hc
    · rintro ⟨⟨rfl, rfl⟩, h2⟩
      have hle := hl as h2
      have : as.length ≤ (as.flatMap put ++ t).length / k := (Nat.le_div_iff_mul_le hk).2 (by rw [List.length_append]; omega)
      rw [if_pos ⟨by omega, by omega⟩]
      exact (rds_rep h _ _ _ _).2 ⟨rfl, by simp, h2⟩
theorem rds_rows : Rds rowsP putRows fun _ => True := fun l as t => by
  have := rds_cnt rds_row 1 (by omega) (fun as _ => by have := putRow_len as; omega) l as t
  simp only [imp_true_iff] at this
  exact this
theorem rds_things (k : Nat) (hk : 0 < k) : Rds (thingsP k) (fun as => (as.length : Int) :: as.flatten) fun as => ∀ a ∈ as, a.length = k := fun l as t => by
  have := rds_cnt (rds_take k) k hk (fun as h => by rw [List.flatMap_id, flat_len h]; exact Nat.le_refl _) l as t
  simp only [List.flatMap_id] at this
  exact this
theorem rds_trees : Rds treesP putTrees fun ts => ∀ a ∈ ts, ∀ b ∈ a, b.length = 3 := fun l as t => by
  have hl : ∀ as : List (List (List Int)), as.length ≤ (as.flatMap fun as => (as.length : Int) :: as.flatten).length := fun as => by
    induction as with
    | nil => exact Nat.le_refl _
    | cons a as ih => simp only [List.flatMap_cons, List.length_append, List.length_cons]; omega
  have := rds_cnt (rds_things 3 (by omega)) 1 (by omega) (fun as _ => by have := hl as; omega) l as t
  exact this
theorem bindP_iff {α β : Type} (x : Option (α × List Int)) (f : α → List Int → Option (β × List Int)) (y : β × List Int) : bindP x f = some y ↔ ∃ a l, x = some (a, l) ∧ f a l = some y := by
  cases x with
  | none => simp [bindP]
  | some z => obtain ⟨a, l⟩ := z; simp [bindP, and_assoc]
theorem certP_iff (l t : List Int) (c : CV) : certP l = some (some c, t) ↔ l = putC c ++ t ∧ okC c := by
  constructor
  · intro h
    cases l with
    | nil => cases h
    | cons k r =>
      simp only [certP] at h
      split at h
      · rename_i hk
        subst hk
        simp only [bindP_iff] at h
        obtain ⟨o, l1, h1, c2, l2, h2, e⟩ := h
        simp only [Option.some.injEq, Prod.mk.injEq] at e
        obtain ⟨rfl, rfl⟩ := e
        obtain ⟨e1, _⟩ := (rds_row _ _ _).1 h1
        obtain ⟨e2, _⟩ := (rds_rows _ _ _).1 h2
        exact ⟨by rw [e1, e2]; simp [putC], trivial⟩
      split at h
      · rename_i hk
        subst hk
        simp only [bindP_iff] at h
        obtain ⟨o, l1, h1, c2, l2, h2, c3, l3, h3, e⟩ := h
        simp only [Option.some.injEq, Prod.mk.injEq] at e
        obtain ⟨rfl, rfl⟩ := e
        obtain ⟨e1, _⟩ := (rds_rows _ _ _).1 h1
        obtain ⟨e2, _⟩ := (rds_row _ _ _).1 h2
        obtain ⟨e3, e4⟩ := (rds_trees _ _ _).1 h3
        exact ⟨by rw [e1, e2, e3]; simp [putC], e4⟩
      split at h
      · rename_i hk
        subst hk
        simp only [bindP_iff] at h
        obtain ⟨o, l1, h1, e⟩ := h
        simp only [Option.some.injEq, Prod.mk.injEq] at e
        obtain ⟨rfl, rfl⟩ := e
        obtain ⟨e1, _⟩ := (rds_row _ _ _).1 h1
        exact ⟨by rw [e1]; simp [putC], trivial⟩
      split at h
      · rename_i hk
        subst hk
        simp only [bindP_iff] at h
        obtain ⟨o, l1, h1, c2, l2, h2, c3, l3, h3, e⟩ := h
        simp only [Option.some.injEq, Prod.mk.injEq] at e
        obtain ⟨rfl, rfl⟩ := e
        obtain ⟨e1, _⟩ := (rds_one _ _ _).1 h1
        obtain ⟨e2, _⟩ := (rds_row _ _ _).1 h2
        obtain ⟨e3, _⟩ := (rds_rows _ _ _).1 h3
        exact ⟨by rw [e1, e2, e3]; simp [putC], trivial⟩
      split at h
      · rename_i hk
        subst hk
        simp only [bindP_iff] at h
        obtain ⟨o, l1, h1, c2, l2, h2, c3, l3, h3, e⟩ := h
        simp only [Option.some.injEq, Prod.mk.injEq] at e
        obtain ⟨rfl, rfl⟩ := e
        obtain ⟨e1, _⟩ := (rds_one _ _ _).1 h1
        obtain ⟨e2, _⟩ := (rds_one _ _ _).1 h2
        obtain ⟨e3, _⟩ := (rds_row _ _ _).1 h3
        exact ⟨by rw [e1, e2, e3]; simp [putC], trivial⟩
      split at h
      · rename_i hk
        subst hk
        simp only [bindP_iff] at h
        obtain ⟨o, l1, h1, c2, l2, h2, e⟩ := h
        simp only [Option.some.injEq, Prod.mk.injEq] at e
        obtain ⟨rfl, rfl⟩ := e
        obtain ⟨e1, _⟩ := (rds_one _ _ _).1 h1
        obtain ⟨e2, e3⟩ := (rds_things 6 (by omega) _ _ _).1 h2
        exact ⟨by rw [e1, e2]; simp [putC], e3⟩
      · cases h
  · rintro ⟨rfl, hok⟩
    cases c with
    | pages o c =>
      simp only [putC, List.cons_append, certP, if_true, bindP_iff]
      exact ⟨o, _, (rds_row _ _ _).2 ⟨by first | exact List.append_assoc _ _ _ | simp only [List.append_assoc], trivial⟩, c, t, (rds_rows _ _ _).2 ⟨rfl, trivial⟩, rfl⟩
    | narrow s u ts =>
      simp only [putC, List.cons_append, certP, if_true, bindP_iff]
      rw [if_neg (by decide)]
      simp only [bindP_iff]
      exact ⟨s, _, (rds_rows _ _ _).2 ⟨by first | exact List.append_assoc _ _ _ | simp only [List.append_assoc], trivial⟩, u, _, (rds_row _ _ _).2 ⟨rfl, trivial⟩, ts, t, (rds_trees _ _ _).2 ⟨rfl, hok⟩, rfl⟩
    | ring o =>
      simp only [putC, List.cons_append, certP]
      rw [if_neg (by decide), if_neg (by decide), if_pos trivial]
      simp only [bindP_iff]
      exact ⟨o, t, (rds_row _ _ _).2 ⟨rfl, trivial⟩, rfl⟩
    | bar k s p =>
      simp only [putC, List.cons_append, certP]
      rw [if_neg (by decide), if_neg (by decide), if_neg (by decide), if_pos trivial]
      simp only [bindP_iff]
      exact ⟨k, putRow s ++ putRows p ++ t, (rds_one _ _ _).2 ⟨rfl, trivial⟩, s, putRows p ++ t, (rds_row _ _ _).2 ⟨List.append_assoc _ _ _, trivial⟩, p, t, (rds_rows _ _ _).2 ⟨rfl, trivial⟩, rfl⟩
    | gap a b o =>
      simp only [putC, List.cons_append, certP]
      rw [if_neg (by decide), if_neg (by decide), if_neg (by decide), if_neg (by decide), if_pos trivial]
      simp only [bindP_iff]
      exact ⟨a, _, (rds_one _ _ _).2 ⟨rfl, trivial⟩, b, _, (rds_one _ _ _).2 ⟨rfl, trivial⟩, o, t, (rds_row _ _ _).2 ⟨rfl, trivial⟩, rfl⟩
    | refusal e c =>
      simp only [putC, List.cons_append, certP]
      rw [if_neg (by decide), if_neg (by decide), if_neg (by decide), if_neg (by decide), if_neg (by decide), if_pos trivial]
      simp only [bindP_iff]
      exact ⟨e, _, (rds_one _ _ _).2 ⟨rfl, trivial⟩, c, t, (rds_things 6 (by omega) _ _ _).2 ⟨rfl, hok⟩, rfl⟩
theorem readR_put (l : List Int) (c : CV) : readR l = some c ↔ l = putC c ∧ okC c := by
  rw [readR_iff, certP_iff, List.append_nil]
theorem putC_head : ∀ (c : CV), (putC c).head? = some (kindC c)
  | .pages _ _ => rfl
  | .narrow _ _ _ => rfl
  | .ring _ => rfl
  | .bar _ _ _ => rfl
  | .gap _ _ _ => rfl
  | .refusal _ _ => rfl
end Go.Ai.G
/- The contracts of layer 22, together; what must be in any case. -/
namespace Go.Ai.G
open Go.Ai
set_option maxRecDepth 100000
set_option linter.unusedSimpArgs false
set_option linter.unusedVariables false
variable {A : AProg} {φ : Nat → Nat}
attribute [local simp ↓] getD_z getD_s hid_k hid_o hid_q hid_v PO_nil PO_none PO_grd PD_nil PD_none PD_grd PDO_N PDO_X PDO_call PDO_calli PDO_callv PSX_N PSX_X PSX_call PSX_calli PSX_callv PSX_inv
  PSX_callp PSX_panic PDO_inv PStep_inv thenC_pan blockC_pan loopC_pan endX_ret endX_norm endX_pan PStep_N PStep_X PStep_call PStep_calli PC_skip PC_lab PC_ret PC_exit PC_reg PC_draw
  PC_seq PC_block PC_loop PC_scope PC_cond thenC_norm thenC_ret thenC_exit blockC_norm blockC_ret blockC_exit loopC_norm loopC_ret loopC_exit endR_ret endR_norm
attribute [local simp] gz PDX_free PDX_eq KI_some n_mki n_tas0 n_tasf PStep_callv resK_none resK_t resK_tt KNO_val KNO_new KNO_ite KNO_map KXO_some KXO_ite KVA_t KVA_f KG_skip KG_tt KG_ff KG_tf KG_ft
  KB_true KB_false KNOD_val KNOD_new KNOD_ite n_mv n_pick n_bin n_eqB n_eqN n_eqS n_un n_conv n_fadd n_faddV n_fld1 n_fldN n_idx n_idxA n_idxV n_idxAV n_ext n_lenS n_lenS0 n_lenV
  n_lenT n_lenA n_min n_max n_build n_mkfn n_slc n_slc0 n_slcV n_slcA n_load1 n_loadN n_load1V n_loadNV n_alloc n_box n_bsl n_mksl n_nilcP n_nilcV n_nilcI n_nilcF x_store x_clear0
  x_clear b_add b_sub b_mul b_eql b_neq b_lss b_leq b_gtr b_geq b_and16 unV ntouch gather hide unhide evalOpd applyOuts int_bne int_beq ite_bool ite_int one_bool cells_bool one_int
  cells_int one_str cells_str one_nilp cells_nilp one_ptr cells_ptr one_nils cells_nils one_sl cells_sl one_nilf cells_nilf one_fn cells_fn one_nili cells_nili one_mp cells_mp
  one_nilm cells_nilm one_iface cells_iface one_vs cells_vs one_vp cells_vp cells_agg Nat.testBit setAt_1 setAt_2 closeds_nil closeds_cons closed_bool closed_int closed_str
  closed_nilp closed_nils closed_nilm closed_nilf closed_nili closed_agg closed_tup closed_vs closed_vp closed_iface closed_fn closeds_cI closeds_cE viewA_closed viewR_closed AV.scal
  AV.scal0 fillA repA part_bool part_int part_str part_nilp part_ptr part_nils part_sl part_nilm part_mp part_nilf part_fn part_nili part_iface part_agg part_vs part_vp viewA_sl1
  vaSl_cells wrap_0 wrap_1 wrap_2 wrap_m1 set_last get_last
theorem er84_0 (φ : Nat → Nat) : r84_0 φ = [
  ⟨0, .N .mv, [.c (.bool false)], none, 0⟩] := Eq.trans rfl rfl
theorem er84_1 (φ : Nat → Nat) : r84_1 φ = [
  ⟨0, .N (.bsl [.int .i64 0] 3 1 [(0, 1), (1, 1), (2, 1)]), [.c (.int .i64 0), .c (.int .i64 1), .c (.int .i64 2)], none, 0⟩,
  ⟨1, .N (.build [.int .i64 0, .int .i64 0, .nils] [(0, 1), (1, 1), (2, 1)]), [.c (.int .i64 0), .c (.int .i64 2), .l 0], none, 0⟩,
  ⟨2, .N (.mki (φ 89)), [.l 0], none, 0⟩,
  ⟨3, .calli false (φ 99), [.l 0], none, 0⟩,
  ⟨4, .N .mv, [.l 0], none, 0⟩] := Eq.trans rfl rfl
theorem er84_2 (φ : Nat → Nat) : r84_2 φ = [
  ⟨0, .N (.bsl [.int .i64 0] 5 1 [(0, 1), (1, 1), (2, 1), (3, 1), (4, 1)]), [.c (.int .i64 3), .c (.int .i64 3), .c (.int .i64 1), .c (.int .i64 2), .c (.int .i64 3)], none, 0⟩,
  ⟨1, .calli false (φ 85), [.l 0], none, 0⟩,
  ⟨2, .N .mv, [.l 0], none, 0⟩,
  ⟨3, .N (.ext 0), [.l 0], none, 0⟩,
  ⟨4, .N (.ext 1), [.l 1], none, 0⟩,
  ⟨5, .N .mv, [.l 1], none, 0⟩,
  ⟨6, .N .mv, [.l 1], none, 0⟩] := Eq.trans rfl rfl
theorem er84_3 (φ : Nat → Nat) : r84_3 φ = [
  ⟨0, .N (.bsl [.int .i64 0] 5 1 [(0, 1), (1, 1), (2, 1), (3, 1), (4, 1)]), [.c (.int .i64 3), .c (.int .i64 4), .c (.int .i64 1), .c (.int .i64 2), .c (.int .i64 3)], none, 0⟩,
  ⟨1, .calli false (φ 85), [.l 0], none, 0⟩,
  ⟨2, .N .mv, [.l 0], none, 0⟩,
  ⟨3, .N (.ext 0), [.l 0], none, 0⟩,
  ⟨4, .N (.ext 1), [.l 1], none, 0⟩,
  ⟨5, .N .mv, [.l 1], none, 0⟩,
  ⟨6, .N .mv, [.l 1], none, 0⟩] := Eq.trans rfl rfl
theorem er84_4 (φ : Nat → Nat) : r84_4 φ = [
  ⟨0, .N (.bsl [.int .i64 0] 1 1 [(0, 1)]), [.c (.int .i64 7)], none, 0⟩,
  ⟨1, .N (.build [.int .i64 0, .int .i64 0, .nils] [(2, 1)]), [.l 0], none, 0⟩,
  ⟨2, .N (.mki (φ 89)), [.l 0], none, 0⟩,
  ⟨3, .calli false (φ 103), [.l 0], none, 0⟩,
  ⟨4, .N .mv, [.l 0], none, 0⟩,
  ⟨5, .N (.ext 0), [.l 0], none, 0⟩,
  ⟨6, .N (.ext 1), [.l 1], none, 0⟩,
  ⟨7, .N .mv, [.l 1], none, 0⟩,
  ⟨8, .N .mv, [.l 1], none, 0⟩] := Eq.trans rfl rfl
theorem er84_5 (φ : Nat → Nat) : r84_5 φ = [
  ⟨0, .N .mv, [.n 2], none, 0⟩,
  ⟨1, .calli false (φ 103), [.l 0], none, 0⟩,
  ⟨2, .N .mv, [.l 0], none, 0⟩,
  ⟨3, .N (.ext 0), [.l 0], none, 0⟩,
  ⟨4, .N (.ext 1), [.l 1], none, 0⟩,
  ⟨5, .N .mv, [.l 1], none, 0⟩,
  ⟨6, .N .mv, [.l 1], none, 0⟩] := Eq.trans rfl rfl
theorem er84_6 (φ : Nat → Nat) : r84_6 φ = [
  ⟨0, .N (.build [.int .i64 0, .nils, .nils] [(0, 1)]), [.c (.int .i64 2)], none, 0⟩,
  ⟨1, .N (.build [.int .i64 0, .nils, .nils] [(0, 3)]), [.l 0], none, 0⟩,
  ⟨2, .N (.mki (φ 87)), [.l 0], none, 0⟩,
  ⟨3, .calli false (φ 105), [.l 0], none, 0⟩,
  ⟨4, .N .mv, [.l 0], none, 0⟩,
  ⟨5, .N (.ext 0), [.l 0], none, 0⟩,
  ⟨6, .N (.ext 1), [.l 1], none, 0⟩,
  ⟨7, .N (.alloc [.int .i64 0, .nils, .nils]), [], none, 0⟩,
  ⟨8, .X (.store 3), [.l 0, .l 2], none, 0⟩,
  ⟨9, .N .mv, [.l 2], none, 0⟩] := Eq.trans rfl rfl
theorem er84_7 (φ : Nat → Nat) : r84_7 φ = [
  ⟨0, .N .mv, [.n 2], none, 0⟩,
  ⟨1, .calli false (φ 105), [.l 0], none, 0⟩,
  ⟨2, .N .mv, [.l 0], none, 0⟩,
  ⟨3, .N (.ext 0), [.l 0], none, 0⟩,
  ⟨4, .N (.ext 1), [.l 1], none, 0⟩,
  ⟨5, .N (.alloc [.int .i64 0, .nils, .nils]), [], none, 0⟩,
  ⟨6, .X (.store 3), [.l 0, .l 2], none, 0⟩,
  ⟨7, .N .mv, [.l 2], none, 0⟩] := Eq.trans rfl rfl
theorem er84_8 (φ : Nat → Nat) : r84_8 φ = [
  ⟨0, .N .mv, [.n 3], none, 0⟩,
  ⟨1, .N (.bin .neq), [.l 0, .c (.int .i64 0)], none, 0⟩,
  ⟨2, .N .mv, [.l 0], none, 0⟩,
  ⟨3, .N .mv, [.n 2], some (.l 0, false), 0⟩,
  ⟨4, .N (.eqN 4 false), [.l 0, .c (.nili)], some (.l 1, false), 0⟩,
  ⟨5, .N .pick, [.l 2, .c (.bool true), .l 0], none, 0⟩] := Eq.trans rfl rfl
theorem er84_9 (φ : Nat → Nat) : r84_9 φ = [
  ⟨0, .N .mv, [.c (.bool false)], none, 0⟩] := Eq.trans rfl rfl
theorem er84_10 (φ : Nat → Nat) : r84_10 φ = [
  ⟨0, .N .mv, [.n 1], none, 0⟩,
  ⟨1, .N (.bsl [.int .i64 0] 7 1 [(0, 1), (1, 1), (2, 1), (3, 1), (4, 1), (5, 1), (6, 1)]), [.c (.int .i64 5), .c (.int .i64 0), .c (.int .i64 2), .c (.int .i64 3), .c (.int .i64 0), .c (.int .i64 1), .c (.int .i64 2)], none, 0⟩,
  ⟨2, .calli true (φ 11), [.l 1, .l 0], none, 0⟩,
  ⟨3, .N .mv, [.l 0], none, 0⟩,
  ⟨4, .N .mv, [.n 2], some (.l 0, true), 0⟩,
  ⟨5, .inv [(φ 87, φ 88), (φ 89, φ 90), (φ 91, φ 92), (φ 93, φ 94), (φ 95, φ 96), (φ 97, φ 98)], [.l 0], some (.l 1, true), 0⟩,
  ⟨6, .N (.bin .eql), [.l 0, .c (.int .i64 3)], some (.l 2, true), 0⟩,
  ⟨7, .N .pick, [.l 3, .l 0, .c (.bool false)], none, 0⟩,
  ⟨8, .N .mv, [.l 0], none, 0⟩,
  ⟨9, .N .mv, [.n 4], some (.l 0, true), 0⟩,
  ⟨10, .N (.bin .eql), [.l 0, .c (.int .i64 3)], some (.l 1, true), 0⟩,
  ⟨11, .N .pick, [.l 2, .l 0, .c (.bool false)], none, 0⟩,
  ⟨12, .N .mv, [.l 0], none, 0⟩,
  ⟨13, .N .mv, [.n 6], some (.l 0, true), 0⟩,
  ⟨14, .N .pick, [.l 1, .l 0, .c (.bool false)], none, 0⟩,
  ⟨15, .N .mv, [.l 0], none, 0⟩,
  ⟨16, .N .mv, [.n 7], some (.l 0, true), 0⟩,
  ⟨17, .N (.un .not), [.l 0], some (.l 1, true), 0⟩,
  ⟨18, .N .pick, [.l 2, .l 0, .c (.bool false)], none, 0⟩,
  ⟨19, .N .mv, [.l 0], none, 0⟩,
  ⟨20, .N .mv, [.n 5], some (.l 0, true), 0⟩,
  ⟨21, .N .lenS, [.l 0], some (.l 1, true), 0⟩,
  ⟨22, .N (.bin .eql), [.l 0, .c (.int .i64 1)], some (.l 2, true), 0⟩,
  ⟨23, .N .pick, [.l 3, .l 0, .c (.bool false)], none, 0⟩,
  ⟨24, .N .mv, [.l 0], none, 0⟩,
  ⟨25, .N .mv, [.n 5], some (.l 0, true), 0⟩,
  ⟨26, .N (.idx 1), [.l 0, .c (.int .i64 0)], some (.l 1, true), 0⟩,
  ⟨27, .N .load1, [.l 0], some (.l 2, true), 0⟩,
  ⟨28, .N (.bin .eql), [.l 0, .c (.int .i64 7)], some (.l 3, true), 0⟩,
  ⟨29, .N .pick, [.l 4, .l 0, .c (.bool false)], none, 0⟩,
  ⟨30, .N .mv, [.l 0], none, 0⟩,
  ⟨31, .N (.fadd 0), [.n 8], some (.l 0, true), 0⟩,
  ⟨32, .N .load1, [.l 0], some (.l 1, true), 0⟩,
  ⟨33, .N (.bin .eql), [.l 0, .c (.int .i64 2)], some (.l 2, true), 0⟩,
  ⟨34, .N .pick, [.l 3, .l 0, .c (.bool false)], none, 0⟩,
  ⟨35, .N .mv, [.l 0], none, 0⟩,
  ⟨36, .N .mv, [.n 9], some (.l 0, true), 0⟩,
  ⟨37, .N (.bin .eql), [.l 0, .c (.int .i64 0)], some (.l 1, true), 0⟩,
  ⟨38, .N .pick, [.l 2, .l 0, .c (.bool false)], none, 0⟩,
  ⟨39, .N .mv, [.l 0], none, 0⟩,
  ⟨40, .N .mv, [.n 10], some (.l 0, true), 0⟩,
  ⟨41, .N (.bin .eql), [.l 0, .c (.int .i64 7)], some (.l 1, true), 0⟩,
  ⟨42, .N .pick, [.l 2, .l 0, .c (.bool false)], none, 0⟩,
  ⟨43, .N .mv, [.l 0], none, 0⟩] := Eq.trans rfl rfl
structure C22 (A : AProg) (φ : Nat → Nat) : Prop where
  td : TyD φ
  read : A.ext (φ 85) = some (readExt φ)
  sub : A.ext (φ 105) = some (subExt φ)
  ints : Has A (φ 99) (f99 φ)
  crow : Has A (φ 120) (f120 φ)
  crows : Has A (φ 121) (f121 φ)
  order : Has A (φ 103) (f103 φ)
  clone : Has A (φ 122) (f122 φ)
  kinds : KH A φ
  same : Has A (φ 11) (f11 φ)
theorem cvV_ne (φ : Nat → Nat) (c : CV) : (cvV φ c).one = true ∧ (cvV φ c).cells = [cvV φ c] ∧ AV.isNilK 4 (cvV φ c) = some false := by
  cases c <;> exact ⟨rfl, rfl, rfl⟩
theorem C22.cread (g : C22 A φ) {v : AV} {l : List Int} (hv : IsI v l) (hn : l.length < 1000000000) : PVal A (φ 85) [v] (.tup [cvO φ (readR l), .int .i64 (readE l)]) := w_ReadV g.read v l hv hn (cvO_closed φ _)
theorem C22.csame (g : C22 A φ) {v u : AV} {xs ys : List Int} (hv : IsI v xs) (hu : IsI u ys) (hn : xs.length < 1000000000000) : PVal A (φ 11) [v, u] (.bool (decide (xs = ys))) := w_Same g.same v u xs ys hv hu hn
theorem C22.cints (g : C22 A φ) {v : AV} {c : CV} (hv : IsCV φ v c) (hn : (putC c).length < 100000000000) : PVal A (φ 99) [v] (vI (putC c)) := w_Ints g.td g.ints g.crow g.crows hv hn
theorem rR_closed (ps : List (List Int)) : (rR ps).closed = true := (isRows_rR ps).closed
set_option maxHeartbeats 4000000 in
theorem w_shown22 (h : Has A (φ 84) (f84 φ)) (g : C22 A φ) : PVal A (φ 84) [] (.bool true) := by
  have hr1 : readR [3, 3, 1, 2, 3] = some (.ring [1, 2, 3]) := (readR_put _ _).2 ⟨rfl, trivial⟩
  have hr2 : readR [3, 4, 1, 2, 3] = none := rfl
  have c1 := (g.cints (.gap 0 2 (isI_v [0, 1, 2])) (by simp [putC, putRow])).eq
  have c2 := (g.cread (isI_v [3, 3, 1, 2, 3]) (by simp)).eq
  have c3 := (g.cread (isI_v [3, 4, 1, 2, 3]) (by simp)).eq
  have c4 := (w_OrderGap g.td g.order g.clone 0 0 (isI_v [7]) (by simp)).eq
  have c5 := (w_OrderNo g.td g.order (t := φ 97) (x := .agg [vI [1, 2, 3]]) (by simp [g.td.all]) (by simp [g.td.all])).eq
  have c6 := (w_SubBar g.sub 2 .nils [] [] isI_nil (by simp) (by simp) (by simp) rfl).eq
  have c7 := (w_SubNo g.sub (φ 97) (.agg [vI [1, 2, 3]]) (by simp [g.td.all]) rfl).eq
  have c8 := (g.csame (isI_v [5, 0, 2, 3, 0, 1, 2]) (isI_v [5, 0, 2, 3, 0, 1, 2]) (by simp)).eq
  have e1 : readE [3, 3, 1, 2, 3] = 0 := by simp [readE, hr1]
  have e2 : readE [3, 4, 1, 2, 3] = 3 := by simp [readE, hr2]
  rw [hr1, e1] at c2
  rw [hr2, e2] at c3
  have va1 : viewA [.cells 0 false [.int .i64 0, .int .i64 1, .int .i64 2]] [.iface (φ 89) (.agg [.int .i64 0, .int .i64 2, .sl 0 0 0 3 1 3 true])] = some ([.iface (φ 89) (.agg [.int .i64 0, .int .i64 2, vI [0, 1, 2]])], [.cells 0 true [.int .i64 0, .int .i64 1, .int .i64 2]]) := rfl
  have va2 : viewA [.cells 0 true [.int .i64 0, .int .i64 1, .int .i64 2], .cells 0 false [.int .i64 3, .int .i64 3, .int .i64 1, .int .i64 2, .int .i64 3]] [.sl 1 0 0 5 1 5 true] = some ([vI [3, 3, 1, 2, 3]], [.cells 0 true [.int .i64 0, .int .i64 1, .int .i64 2], .cells 0 true [.int .i64 3, .int .i64 3, .int .i64 1, .int .i64 2, .int .i64 3]]) := rfl
  have va3 : viewA [.cells 0 true [.int .i64 0, .int .i64 1, .int .i64 2], .cells 0 true [.int .i64 3, .int .i64 3, .int .i64 1, .int .i64 2, .int .i64 3], .cells 0 false [.int .i64 3, .int .i64 4, .int .i64 1, .int .i64 2, .int .i64 3]] [.sl 2 0 0 5 1 5 true] = some ([vI [3, 4, 1, 2, 3]], [.cells 0 true [.int .i64 0, .int .i64 1, .int .i64 2], .cells 0 true [.int .i64 3, .int .i64 3, .int .i64 1, .int .i64 2, .int .i64 3], .cells 0 true [.int .i64 3, .int .i64 4, .int .i64 1, .int .i64 2, .int .i64 3]]) := rfl
  have va4 : viewA [.cells 0 true [.int .i64 0, .int .i64 1, .int .i64 2], .cells 0 true [.int .i64 3, .int .i64 3, .int .i64 1, .int .i64 2, .int .i64 3], .cells 0 true [.int .i64 3, .int .i64 4, .int .i64 1, .int .i64 2, .int .i64 3], .cells 0 false [.int .i64 7]] [.iface (φ 89) (.agg [.int .i64 0, .int .i64 0, .sl 3 0 0 1 1 1 true])] = some ([.iface (φ 89) (.agg [.int .i64 0, .int .i64 0, vI [7]])], [.cells 0 true [.int .i64 0, .int .i64 1, .int .i64 2], .cells 0 true [.int .i64 3, .int .i64 3, .int .i64 1, .int .i64 2, .int .i64 3], .cells 0 true [.int .i64 3, .int .i64 4, .int .i64 1, .int .i64 2, .int .i64 3], .cells 0 true [.int .i64 7]]) := rfl
  have va5 : viewA [.cells 0 true [.int .i64 0, .int .i64 1, .int .i64 2], .cells 0 true [.int .i64 3, .int .i64 3, .int .i64 1, .int .i64 2, .int .i64 3], .cells 0 true [.int .i64 3, .int .i64 4, .int .i64 1, .int .i64 2, .int .i64 3], .cells 0 true [.int .i64 7], .cells 0 false [.int .i64 2, .nils, .nils], .cells 0 false [.int .i64 0, .nils, .nils], .cells 0 false [.int .i64 5, .int .i64 0, .int .i64 2, .int .i64 3, .int .i64 0, .int .i64 1, .int .i64 2]] [vI [5, 0, 2, 3, 0, 1, 2], .sl 6 0 0 7 1 7 true] = some ([vI [5, 0, 2, 3, 0, 1, 2], vI [5, 0, 2, 3, 0, 1, 2]], [.cells 0 true [.int .i64 0, .int .i64 1, .int .i64 2], .cells 0 true [.int .i64 3, .int .i64 3, .int .i64 1, .int .i64 2, .int .i64 3], .cells 0 true [.int .i64 3, .int .i64 4, .int .i64 1, .int .i64 2, .int .i64 3], .cells 0 true [.int .i64 7], .cells 0 false [.int .i64 2, .nils, .nils], .cells 0 false [.int .i64 0, .nils, .nils], .cells 0 true [.int .i64 5, .int .i64 0, .int .i64 2, .int .i64 3, .int .i64 0, .int .i64 1, .int .i64 2]]) := rfl
  have hp : putC (.gap 0 2 [0, 1, 2]) = [5, 0, 2, 3, 0, 1, 2] := rfl
  rw [hp] at c1
  simp only [decide_true] at c8
  have hc1 := (isI_v [5, 0, 2, 3, 0, 1, 2]).closed
  have hc2 := (isI_v [5, 0, 2, 3, 0, 1, 2]).one
  have hc3 := (isI_v [1, 2, 3]).closed
  have hc4 := (isI_v [1, 2, 3]).one
  have hc5 := (isI_v [7]).one
  have hc6 : (cI [7])[0]? = some (.int .i64 7) := rfl
  simp only [cvO, cvV] at c2 c3
  have hz : rR [] = .nils := rfl
  rw [hz] at c6
  have hk := g.kinds.kRing
  have hi1 : ∀ t v, AV.isNilK 4 (.iface t v) = some false := fun _ _ => rfl
  have hi2 : AV.isNilK 4 .nili = some true := rfl
  refine pval_has h rfl ?_
  simp only [b84, f84]
  simp [-List.getD_eq_getElem?_getD, -Int.ofNat_toNat, -getElem?_pos, er84_0, er84_1, er84_2, er84_3, er84_4, er84_5, er84_6, er84_7, er84_8, er84_9, er84_10, va1, va2, va3, va4, va5, c8, c1, c2, c3, c4, c5, c6, c7, viewA_closed, closeds_cons, hc1, hc2, hc3, hc4, hc5, setAt, subNo, hi1, hi2, List.lookup, g.td.allb]
  refine pcall_has hk rfl ?_
  simp only [b98, f98]
  simp [-List.getD_eq_getElem?_getD, -Int.ofNat_toNat, -getElem?_pos, er98_0, er98_1, hc4, hc6, resK, resVs, resV, pack]
end Go.Ai.G
/- CertReads: which numbers are a certificate's. -/
namespace Go.Ai.G
open Go.Ai
set_option maxRecDepth 100000
set_option linter.unusedSimpArgs false
set_option linter.unusedVariables false
variable {A : AProg} {φ : Nat → Nat}
attribute [local simp ↓] getD_z getD_s hid_k hid_o hid_q hid_v PO_nil PO_none PO_grd PD_nil PD_none PD_grd PDO_N PDO_X PDO_call PDO_calli PDO_callv PSX_N PSX_X PSX_call PSX_calli PSX_callv PSX_inv
  PSX_callp PSX_panic PDO_inv PStep_inv thenC_pan blockC_pan loopC_pan endX_ret endX_norm endX_pan PStep_N PStep_X PStep_call PStep_calli PC_skip PC_lab PC_ret PC_exit PC_reg PC_draw
  PC_seq PC_block PC_loop PC_scope PC_cond thenC_norm thenC_ret thenC_exit blockC_norm blockC_ret blockC_exit loopC_norm loopC_ret loopC_exit endR_ret endR_norm
attribute [local simp] gz PDX_free PDX_eq KI_some n_mki n_tas0 n_tasf PStep_callv resK_none resK_t resK_tt KNO_val KNO_new KNO_ite KNO_map KXO_some KXO_ite KVA_t KVA_f KG_skip KG_tt KG_ff KG_tf KG_ft
  KB_true KB_false KNOD_val KNOD_new KNOD_ite n_mv n_pick n_bin n_eqB n_eqN n_eqS n_un n_conv n_fadd n_faddV n_fld1 n_fldN n_idx n_idxA n_idxV n_idxAV n_ext n_lenS n_lenS0 n_lenV
  n_lenT n_lenA n_min n_max n_build n_mkfn n_slc n_slc0 n_slcV n_slcA n_load1 n_loadN n_load1V n_loadNV n_alloc n_box n_bsl n_mksl n_nilcP n_nilcV n_nilcI n_nilcF x_store x_clear0
  x_clear b_add b_sub b_mul b_eql b_neq b_lss b_leq b_gtr b_geq b_and16 unV ntouch gather hide unhide evalOpd applyOuts int_bne int_beq ite_bool ite_int one_bool cells_bool one_int
  cells_int one_str cells_str one_nilp cells_nilp one_ptr cells_ptr one_nils cells_nils one_sl cells_sl one_nilf cells_nilf one_fn cells_fn one_nili cells_nili one_mp cells_mp
  one_nilm cells_nilm one_iface cells_iface one_vs cells_vs one_vp cells_vp cells_agg Nat.testBit setAt_1 setAt_2 closeds_nil closeds_cons closed_bool closed_int closed_str
  closed_nilp closed_nils closed_nilm closed_nilf closed_nili closed_agg closed_tup closed_vs closed_vp closed_iface closed_fn closeds_cI closeds_cE viewA_closed viewR_closed AV.scal
  AV.scal0 fillA repA part_bool part_int part_str part_nilp part_ptr part_nils part_sl part_nilm part_mp part_nilf part_fn part_nili part_iface part_agg part_vs part_vp viewA_sl1
  vaSl_cells wrap_0 wrap_1 wrap_2 wrap_m1 set_last get_last
structure I22 (A : AProg) (φ : Nat → Nat) : Prop extends C22 A φ where
  is : Has A (φ 86) (f86 φ)
  rrow : Has A (φ 116) (f116 φ)
  rrows : Has A (φ 117) (f117 φ)
  rthings : Has A (φ 119) (f119 φ)
  rtrees : Has A (φ 118) (f118 φ)
theorem I22.cis (g : I22 A φ) {v : AV} {l : List Int} (hv : IsI v l) (hn : l.length < 1000000000) : PVal A (φ 86) [v] (.bool (isR l)) := w_Is g.is g.rrow g.rrows g.rthings g.rtrees hv hn
/-- A row, cut, as a row of one's own. -/
theorem cutI {P : Nat} {H : Heap} {v : AV} {l : List Int} (hv : IsI v l) (k : Nat) (hk : k ≤ 1000000) (b : Nat) (hP : P ≤ H.length) : ∃ v' o H', (∀ (i : IntKind) rd, nstep (.slc 1 false true false) [v, .int i ((min l.length k : Nat) : Int)] rd = some (.val v')) ∧
    xstep (.app 1 8) [.sl b 0 0 0 1 0 true, v'] H = some (o, H') ∧ OwnI false P H' o (l.take k) ∧ (∀ b, b < P → H'[b]? = H[b]?) ∧ H.length ≤ H'.length := by
  obtain ⟨v', s1, s2, _⟩ := (hv.rd (P := 0) (H := H)).take (n := min l.length k) (by omega)
  have e : l.take (min l.length k) = l.take k := by
    rcases Nat.le_total l.length k with h | h
    · rw [Nat.min_eq_left h, List.take_of_length_le h, List.take_of_length_le (Nat.le_refl _)]
    · rw [Nat.min_eq_right h]
  rw [e] at s2
  obtain ⟨o, H', x1, x2, x3, x4⟩ := ownI_appR (ownI_empty P H b 0 0) s2 hP (by simp; omega)
  exact ⟨v', o, H', s1, x1, by simpa using x2, x3, x4⟩
theorem readE_ok {l : List Int} {c : CV} (h : readR l = some c) : readE l = 0 := by simp [readE, h]
theorem readE_no {l : List Int} (h : readR l = none) : readE l = 3 := by simp [readE, h]
end Go.Ai.G
/- CertCut: no certificate's numbers begin with another one's. -/
namespace Go.Ai.G
open Go.Ai
set_option maxRecDepth 100000
set_option linter.unusedSimpArgs false
set_option linter.unusedVariables false
variable {A : AProg} {φ : Nat → Nat}
attribute [local simp ↓] getD_z getD_s hid_k hid_o hid_q hid_v PO_nil PO_none PO_grd PD_nil PD_none PD_grd PDO_N PDO_X PDO_call PDO_calli PDO_callv PSX_N PSX_X PSX_call PSX_calli PSX_callv PSX_inv
  PSX_callp PSX_panic PDO_inv PStep_inv thenC_pan blockC_pan loopC_pan endX_ret endX_norm endX_pan PStep_N PStep_X PStep_call PStep_calli PC_skip PC_lab PC_ret PC_exit PC_reg PC_draw
  PC_seq PC_block PC_loop PC_scope PC_cond thenC_norm thenC_ret thenC_exit blockC_norm blockC_ret blockC_exit loopC_norm loopC_ret loopC_exit endR_ret endR_norm
attribute [local simp] gz PDX_free PDX_eq KI_some n_mki n_tas0 n_tasf PStep_callv resK_none resK_t resK_tt KNO_val KNO_new KNO_ite KNO_map KXO_some KXO_ite KVA_t KVA_f KG_skip KG_tt KG_ff KG_tf KG_ft
  KB_true KB_false KNOD_val KNOD_new KNOD_ite n_mv n_pick n_bin n_eqB n_eqN n_eqS n_un n_conv n_fadd n_faddV n_fld1 n_fldN n_idx n_idxA n_idxV n_idxAV n_ext n_lenS n_lenS0 n_lenV
  n_lenT n_lenA n_min n_max n_build n_mkfn n_slc n_slc0 n_slcV n_slcA n_load1 n_loadN n_load1V n_loadNV n_alloc n_box n_bsl n_mksl n_nilcP n_nilcV n_nilcI n_nilcF x_store x_clear0
  x_clear b_add b_sub b_mul b_eql b_neq b_lss b_leq b_gtr b_geq b_and16 unV ntouch gather hide unhide evalOpd applyOuts int_bne int_beq ite_bool ite_int one_bool cells_bool one_int
  cells_int one_str cells_str one_nilp cells_nilp one_ptr cells_ptr one_nils cells_nils one_sl cells_sl one_nilf cells_nilf one_fn cells_fn one_nili cells_nili one_mp cells_mp
  one_nilm cells_nilm one_iface cells_iface one_vs cells_vs one_vp cells_vp cells_agg Nat.testBit setAt_1 setAt_2 closeds_nil closeds_cons closed_bool closed_int closed_str
  closed_nilp closed_nils closed_nilm closed_nilf closed_nili closed_agg closed_tup closed_vs closed_vp closed_iface closed_fn closeds_cI closeds_cE viewA_closed viewR_closed AV.scal
  AV.scal0 fillA repA part_bool part_int part_str part_nilp part_ptr part_nils part_sl part_nilm part_mp part_nilf part_fn part_nili part_iface part_agg part_vs part_vp viewA_sl1
  vaSl_cells wrap_0 wrap_1 wrap_2 wrap_m1 set_last get_last
end Go.Ai.G
/- ref22: Row, Rows, Sub: the parts of a certificate's numbers. -/
namespace Go.Ai.G
open Go.Ai
set_option maxRecDepth 100000
set_option linter.unusedSimpArgs false
set_option linter.unusedVariables false
variable {A : AProg} {φ : Nat → Nat}
attribute [local simp ↓] getD_z getD_s hid_k hid_o hid_q hid_v PO_nil PO_none PO_grd PD_nil PD_none PD_grd PDO_N PDO_X PDO_call PDO_calli PDO_callv PSX_N PSX_X PSX_call PSX_calli PSX_callv PSX_inv
  PSX_callp PSX_panic PDO_inv PStep_inv thenC_pan blockC_pan loopC_pan endX_ret endX_norm endX_pan PStep_N PStep_X PStep_call PStep_calli PC_skip PC_lab PC_ret PC_exit PC_reg PC_draw
  PC_seq PC_block PC_loop PC_scope PC_cond thenC_norm thenC_ret thenC_exit blockC_norm blockC_ret blockC_exit loopC_norm loopC_ret loopC_exit endR_ret endR_norm
attribute [local simp] gz PDX_free PDX_eq KI_some n_mki n_tas0 n_tasf PStep_callv resK_none resK_t resK_tt KNO_val KNO_new KNO_ite KNO_map KXO_some KXO_ite KVA_t KVA_f KG_skip KG_tt KG_ff KG_tf KG_ft
  KB_true KB_false KNOD_val KNOD_new KNOD_ite n_mv n_pick n_bin n_eqB n_eqN n_eqS n_un n_conv n_fadd n_faddV n_fld1 n_fldN n_idx n_idxA n_idxV n_idxAV n_ext n_lenS n_lenS0 n_lenV
  n_lenT n_lenA n_min n_max n_build n_mkfn n_slc n_slc0 n_slcV n_slcA n_load1 n_loadN n_load1V n_loadNV n_alloc n_box n_bsl n_mksl n_nilcP n_nilcV n_nilcI n_nilcF x_store x_clear0
  x_clear b_add b_sub b_mul b_eql b_neq b_lss b_leq b_gtr b_geq b_and16 unV ntouch gather hide unhide evalOpd applyOuts int_bne int_beq ite_bool ite_int one_bool cells_bool one_int
  cells_int one_str cells_str one_nilp cells_nilp one_ptr cells_ptr one_nils cells_nils one_sl cells_sl one_nilf cells_nilf one_fn cells_fn one_nili cells_nili one_mp cells_mp
  one_nilm cells_nilm one_iface cells_iface one_vs cells_vs one_vp cells_vp cells_agg Nat.testBit setAt_1 setAt_2 closeds_nil closeds_cons closed_bool closed_int closed_str
  closed_nilp closed_nils closed_nilm closed_nilf closed_nili closed_agg closed_tup closed_vs closed_vp closed_iface closed_fn closeds_cI closeds_cE viewA_closed viewR_closed AV.scal
  AV.scal0 fillA repA part_bool part_int part_str part_nilp part_ptr part_nils part_sl part_nilm part_mp part_nilf part_fn part_nili part_iface part_agg part_vs part_vp viewA_sl1
  vaSl_cells wrap_0 wrap_1 wrap_2 wrap_m1 set_last get_last
theorem er112_0 (φ : Nat → Nat) : r112_0 φ = [
  ⟨0, .N .mv, [.c (.nils)], none, 0⟩] := Eq.trans rfl rfl
theorem er112_1 (φ : Nat → Nat) : r112_1 φ = [
  ⟨0, .N (.bsl [.int .i64 0] 0 1 []), [], none, 0⟩,
  ⟨1, .N .mv, [.n 0], none, 0⟩,
  ⟨2, .N .mv, [.n 1], none, 0⟩,
  ⟨3, .N (.bin .add), [.l 0, .c (.int .i64 1)], none, 0⟩,
  ⟨4, .N .mv, [.n 1], none, 0⟩,
  ⟨5, .N (.bin .add), [.l 0, .c (.int .i64 1)], none, 0⟩,
  ⟨6, .N .mv, [.n 0], none, 0⟩,
  ⟨7, .N .mv, [.n 1], none, 0⟩,
  ⟨8, .N (.idx 1), [.l 1, .l 0], none, 0⟩,
  ⟨9, .N .load1, [.l 0], none, 0⟩,
  ⟨10, .N (.bin .add), [.l 4, .l 0], none, 0⟩,
  ⟨11, .N (.slc 1 true true false), [.l 9, .l 7, .l 0], none, 0⟩,
  ⟨12, .X (.app 1 8), [.l 11, .l 0], none, 0⟩,
  ⟨13, .N .mv, [.l 0], none, 0⟩] := Eq.trans rfl rfl
theorem er123_0 (φ : Nat → Nat) : r123_0 φ = [
  ⟨0, .N .mv, [.c (.nils)], none, 0⟩] := Eq.trans rfl rfl
theorem er123_1 (φ : Nat → Nat) : r123_1 φ = [
  ⟨0, .N .mv, [.c (.nils)], none, 0⟩] := Eq.trans rfl rfl
theorem er123_2 (φ : Nat → Nat) : r123_2 φ = [
  ⟨0, .N .mv, [.n 0], none, 0⟩,
  ⟨1, .N .mv, [.n 1], none, 0⟩,
  ⟨2, .N (.idx 1), [.l 1, .l 0], none, 0⟩,
  ⟨3, .N .load1, [.l 0], none, 0⟩,
  ⟨4, .N .mv, [.l 0], none, 0⟩] := Eq.trans rfl rfl
theorem er123_3 (φ : Nat → Nat) : r123_3 φ = [
  ⟨0, .N .mv, [.n 1], none, 0⟩,
  ⟨1, .N (.bin .add), [.l 0, .c (.int .i64 1)], none, 0⟩,
  ⟨2, .N .mv, [.l 0], none, 0⟩] := Eq.trans rfl rfl
theorem er123_4 (φ : Nat → Nat) : r123_4 φ = [
  ⟨0, .N .mv, [.c (.int .i64 0)], none, 0⟩] := Eq.trans rfl rfl
theorem er123_5 (φ : Nat → Nat) : r123_5 φ = [
  ⟨0, .N .mv, [.n 5], none, 0⟩,
  ⟨1, .N .mv, [.n 4], none, 0⟩,
  ⟨2, .N (.bin .lss), [.l 1, .l 0], none, 0⟩] := Eq.trans rfl rfl
theorem er123_6 (φ : Nat → Nat) : r123_6 φ = [
  ⟨0, .N .mv, [.n 3], none, 0⟩,
  ⟨1, .N .mv, [.n 0], none, 0⟩,
  ⟨2, .N .mv, [.n 1], none, 0⟩,
  ⟨3, .calli false (φ 112), [.l 1, .l 0], none, 0⟩,
  ⟨4, .N (.bsl [.nils] 1 1 [(0, 1)]), [.l 0], none, 0⟩,
  ⟨5, .X (.app 1 24), [.l 4, .l 0], none, 0⟩,
  ⟨6, .N .mv, [.l 0], none, 0⟩] := Eq.trans rfl rfl
theorem er123_7 (φ : Nat → Nat) : r123_7 φ = [
  ⟨0, .N .mv, [.n 1], none, 0⟩,
  ⟨1, .N (.bin .add), [.l 0, .c (.int .i64 1)], none, 0⟩,
  ⟨2, .N .mv, [.n 0], none, 0⟩,
  ⟨3, .N .mv, [.n 1], none, 0⟩,
  ⟨4, .N (.idx 1), [.l 1, .l 0], none, 0⟩,
  ⟨5, .N .load1, [.l 0], none, 0⟩,
  ⟨6, .N (.bin .add), [.l 4, .l 0], none, 0⟩,
  ⟨7, .N .mv, [.l 0], none, 0⟩] := Eq.trans rfl rfl
theorem er123_8 (φ : Nat → Nat) : r123_8 φ = [
  ⟨0, .N .mv, [.n 5], none, 0⟩,
  ⟨1, .N (.bin .add), [.l 0, .c (.int .i64 1)], none, 0⟩,
  ⟨2, .N .mv, [.l 0], none, 0⟩] := Eq.trans rfl rfl
theorem er123_10 (φ : Nat → Nat) : r123_10 φ = [
  ⟨0, .N .mv, [.n 3], none, 0⟩,
  ⟨1, .N .mv, [.l 0], none, 0⟩] := Eq.trans rfl rfl
theorem er113_0 (φ : Nat → Nat) : r113_0 φ = [
  ⟨0, .N (.alloc [.int .i64 0, .nils, .nils]), [], none, 0⟩] := Eq.trans rfl rfl
theorem er113_1 (φ : Nat → Nat) : r113_1 φ = [
  ⟨0, .N .mv, [.n 0], none, 0⟩,
  ⟨1, .N (.idx 1), [.l 0, .c (.int .i64 1)], none, 1⟩,
  ⟨2, .N .load1, [.l 0], none, 3⟩,
  ⟨3, .N .mv, [.n 0], none, 0⟩,
  ⟨5, .N .mv, [.n 0], none, 0⟩,
  ⟨6, .N .mv, [.n 0], none, 0⟩,
  ⟨7, .N (.idx 1), [.l 0, .c (.int .i64 2)], none, 32⟩,
  ⟨8, .N .load1, [.l 0], none, 96⟩,
  ⟨9, .N (.bin .add), [.c (.int .i64 3), .l 0], none, 224⟩,
  ⟨4, .calli false (φ 112), [.l 5, .c (.int .i64 2)], none, 8⟩,
  ⟨10, .calli false (φ 123), [.l 5, .l 1], none, 1016⟩,
  ⟨11, .N (.build [.int .i64 0, .nils, .nils] [(0, 1), (1, 1), (2, 1)]), [.l 8, .l 1, .l 0], none, 2047⟩,
  ⟨12, .X (.store 3), [.n 1, .l 0], none, 4095⟩] := Eq.trans rfl rfl
theorem at_nat {v : AV} {l : List Int} (hv : IsI v l) {k : Nat} {n : Int} {r : List Int} (h : l.drop k = n :: r) : k < l.length ∧ k + 1 + r.length = l.length ∧ (∀ (q : IntKind) rd, nstep (.idx 1) [v, .int q (k : Int)] rd = some (.val (.vp (cI l) k))) ∧ (cI l)[k]? = some (.int .i64 n) := by
  have h1 := congrArg List.length h
  simp only [List.length_drop, List.length_cons] at h1
  have hk : k < l.length := by omega
  obtain ⟨a, b⟩ := hv.at hk
  refine ⟨hk, by omega, a, ?_⟩
  rw [b]
  have : l[k]? = some n := by
    have := congrArg (fun t : List Int => t[0]?) h
    simpa using this
  rw [List.getElem?_eq_getElem hk] at this
  rw [Option.some.inj this]
theorem w_rRow (h : Has A (φ 112) (f112 φ)) {v : AV} {l a t : List Int} (hv : IsI v l) (hn : l.length < 1000000000) (k : Nat) (hl : l.drop k = putRow a ++ t) :
    PVal A (φ 112) [v, .int .i64 k] (vI a) := by
  obtain ⟨k1, k2, k3, k4⟩ := at_nat hv (show l.drop k = (a.length : Int) :: (a ++ t) from hl)
  have hlen : (a ++ t).length = a.length + t.length := List.length_append
  have hvv : v = vI l := by
    obtain ⟨_, _, ⟨_, h0⟩ | rfl⟩ := hv
    · omega
    · rfl
  have w1 : IntKind.i64.wrap ((k : Int) + 1) = ((k + 1 : Nat) : Int) := by rw [wrap_in (by omega) (by omega)]; omega
  have w2 : IntKind.i64.wrap (((k + 1 : Nat) : Int) + (a.length : Int)) = ((k + 1 + a.length : Nat) : Int) := by rw [wrap_in (by omega) (by omega)]; omega
  have hd : l.drop (k + 1) = a ++ t := by rw [← List.drop_drop, hl]; rfl
  have hs : ∀ (q r : IntKind) rd, nstep (.slc 1 true true false) [v, .int q ((k + 1 : Nat) : Int), .int r ((k + 1 + a.length : Nat) : Int)] rd = some (.val (vI a)) := fun q r rd => by
    rw [hvv, n_slcV]
    have e : bounds3 l.length l.length true true false [.int q ((k + 1 : Nat) : Int), .int r ((k + 1 + a.length : Nat) : Int)] = some (k + 1, k + 1 + a.length, l.length) := by
      simp [bounds3, intArg]; omega
    rw [e]
    have : k + 1 + a.length - (k + 1) = a.length := by omega
    simp [this, cI_drop, cI_take, hd]
  obtain ⟨o, H', y1, y2, y3, y4⟩ := ownI_appI (P := 0) (H := [Ob.cells 0 false []]) (ownI_empty 0 _ 0 0 0) (isI_v a) (Nat.zero_le _) (by simp; omega)
  rw [List.nil_append] at y2
  have hvw := y2.view
  simp only [rv_false] at hvw
  refine pval_has h rfl ?_
  simp only [b112, f112]
  simp [-Int.natCast_add, -List.getD_eq_getElem?_getD, -Int.ofNat_toNat, -getElem?_pos, er112_0, er112_1, k3, k4, w1, w2, hs, y1, Own.one y2, Own.cells y2, Own.part y2, resK, resVs, resV, pack]
  exact hvw
theorem closeds_vI (rs : List (List Int)) : AV.closeds (rs.map vI) = true := by
  rw [closeds_iff]
  intro i x hx
  rw [List.getElem?_map, Option.map_eq_some_iff] at hx
  obtain ⟨z, _, rfl⟩ := hx
  exact closeds_cI z
set_option maxHeartbeats 1000000 in
theorem w_rRows (h : Has A (φ 123) (f123 φ)) (h2 : Has A (φ 112) (f112 φ)) {v : AV} {l t : List Int} {rs : List (List Int)} (hv : IsI v l) (hn : l.length < 1000000000) (k : Nat) (hl : l.drop k = putRows rs ++ t) :
    PVal A (φ 123) [v, .int .i64 k] (rR rs) := by
  obtain ⟨k1, k2, k3, k4⟩ := at_nat hv (show l.drop k = (rs.length : Int) :: (rs.flatMap putRow ++ t) from hl)
  have v1 := hv.one
  have v3 := hv.closed
  have hll := putRow_len rs
  rw [List.length_append] at k2
  have w1 : IntKind.i64.wrap ((k : Int) + 1) = ((k + 1 : Nat) : Int) := by rw [wrap_in (by omega) (by omega)]; omega
  have hd : l.drop (k + 1) = rs.flatMap putRow ++ t := by rw [← List.drop_drop, hl]; rfl
  refine pval_has h rfl ?_
  simp only [l123_9, b123, f123]
  simp [-Int.natCast_add, -List.getD_eq_getElem?_getD, -Int.ofNat_toNat, -getElem?_pos, er123_0, er123_1, er123_2, er123_3, er123_4, er123_5, er123_6, er123_7, er123_8, er123_10, k3, k4, w1]
  refine pc_loopI (fun m st => ∃ (i p : Nat) (o p6 : AV) (H : Heap), i + m = rs.length ∧ l.drop p = (rs.drop i).flatMap putRow ++ t ∧ p ≤ l.length ∧ Own true 0 H o 1 i ((rs.take i).map vI) ∧ st = ([v, .int .i64 p, .nils, o, .int .i64 rs.length, .int .i64 i, p6], H)) rs.length
    ⟨0, k + 1, _, _, [], by simp, by simpa using hd, by omega, own_nil _ _ _, rfl⟩ ?_
  rintro m st ⟨i, p, o, p6, H, hi, hp, hpl, ho, rfl⟩
  by_cases hlt : i < rs.length
  · have hlt' : (i : Int) < rs.length := by omega
    have hiw := wrap1 hlt (by omega)
    have hdr : rs.drop i = rs[i] :: rs.drop (i + 1) := List.drop_eq_getElem_cons hlt
    have hp1 : l.drop p = putRow rs[i] ++ ((rs.drop (i + 1)).flatMap putRow ++ t) := by rw [hp, hdr, List.flatMap_cons, List.append_assoc]
    obtain ⟨j1, j2, j3, j4⟩ := at_nat hv (show l.drop p = (rs[i].length : Int) :: (rs[i] ++ ((rs.drop (i + 1)).flatMap putRow ++ t)) from hp1)
    rw [List.length_append] at j2
    have c1 := (w_rRow h2 hv hn p hp1).eq
    obtain ⟨o2, H2, x1, x2, x3, x4, _⟩ := Own.app1 (bytes := 24) (x := [vI rs[i]]) ho rfl rfl (Nat.zero_le _) (by omega)
    have w2 : IntKind.i64.wrap ((p : Int) + 1) = ((p + 1 : Nat) : Int) := by rw [wrap_in (by omega) (by omega)]; omega
    have w3 : IntKind.i64.wrap (((p + 1 : Nat) : Int) + (rs[i].length : Int)) = ((p + 1 + rs[i].length : Nat) : Int) := by rw [wrap_in (by omega) (by omega)]; omega
    have htk : (rs.take i).map vI ++ [vI rs[i]] = (rs.take (i + 1)).map vI := by rw [List.take_succ_eq_append_getElem hlt, List.map_append]; rfl
    rw [htk] at x2
    have hp2 : l.drop (p + 1 + rs[i].length) = (rs.drop (i + 1)).flatMap putRow ++ t := by
      rw [show p + 1 + rs[i].length = p + (1 + rs[i].length) by omega, ← List.drop_drop, hp1]
      show List.drop (1 + rs[i].length) ((rs[i].length : Int) :: (rs[i] ++ _)) = _
      rw [Nat.add_comm, List.drop_succ_cons, List.drop_left]
    simp [-Int.natCast_add, -List.getD_eq_getElem?_getD, -Int.ofNat_toNat, -getElem?_pos, er123_0, er123_1, er123_2, er123_3, er123_4, er123_5, er123_6, er123_7, er123_8, er123_10, hlt', hlt, v1, v3, viewA_closed, closeds_cons, c1, x1, j3, j4, w2, w3, hiw]
    refine next_mk (m - 1) (by omega) ⟨i + 1, p + 1 + rs[i].length, o2, _, H2, by omega, hp2, by omega, x2, rfl⟩
  · have hlt' : ¬ (i : Int) < rs.length := by omega
    have hie : i = rs.length := by omega
    subst hie
    rw [List.take_length] at ho
    have hvw := Own.viewR ho (closeds_vI rs)
    simp [-Int.natCast_add, -List.getD_eq_getElem?_getD, -Int.ofNat_toNat, -getElem?_pos, er123_0, er123_1, er123_2, er123_3, er123_4, er123_5, er123_6, er123_7, er123_8, er123_10, hlt', Own.one ho, Own.cells ho, Own.part ho, resK, resVs, resV, pack]
    exact hvw
set_option maxHeartbeats 1000000 in
theorem w_rSub (h : Has A (φ 113) (f113 φ)) (h1 : Has A (φ 123) (f123 φ)) (h2 : Has A (φ 112) (f112 φ)) {v : AV} {l t : List Int} {k : Int} {p : List (List Int)} (hv : IsI v l) (hn : l.length < 1000000000) (hl : l = putC (.bar k t p)) :
    PVal A (φ 113) [v] (.agg [.int .i64 k, vI t, rR p]) := by
  have v1 := hv.one
  have v3 := hv.closed
  have d1 : l.drop 1 = k :: (putRow t ++ putRows p) := by rw [hl]; rfl
  have d2 : l.drop 2 = (t.length : Int) :: (t ++ putRows p) := by rw [hl]; rfl
  have d3 : l.drop (3 + t.length) = putRows p ++ [] := by
    rw [show 3 + t.length = 2 + (t.length + 1) by omega, ← List.drop_drop, d2, List.drop_succ_cons, List.drop_left]; simp
  obtain ⟨_, _, a1, a2⟩ := at_nat hv d1
  obtain ⟨q1, q2, b1, b2⟩ := at_nat hv d2
  rw [List.length_append] at q2
  have w1 : IntKind.i64.wrap (3 + (t.length : Int)) = ((3 + t.length : Nat) : Int) := by rw [wrap_in (by omega) (by omega)]; omega
  have c1 := (show PVal A (φ 112) [v, .int .i64 2] (vI t) from w_rRow h2 hv hn 2 (t := putRows p) d2).eq
  have c2 := (w_rRows h1 h2 hv hn (3 + t.length) d3).eq
  have a1' : ∀ (q : IntKind) rd, nstep (.idx 1) [v, .int q 1] rd = some (.val (.vp (cI l) 1)) := a1
  have b1' : ∀ (q : IntKind) rd, nstep (.idx 1) [v, .int q 2] rd = some (.val (.vp (cI l) 2)) := b1
  have r1 := rR_one p
  have r2 := rR_cells p
  have r3 := rR_part p
  have r4 := rR_closed p
  have t1 := (isI_v t).closed
  generalize rR p = R at *
  refine pval_has h rfl ?_
  simp only [b113, f113]
  simp [-Int.natCast_add, -List.getD_eq_getElem?_getD, -Int.ofNat_toNat, -getElem?_pos, er113_0, er113_1, v1, v3, viewA_closed, closeds_cons, a1', a2, b1', b2, w1, c1, c2, r1, r2, r3, setAt, PDX_eq, resK, resVs, resV, pack]
  exact viewR_closed (by rw [closed_agg]; simp [closeds_cons, closeds_nil, closed_int, t1, r4])
end Go.Ai.G
/- CertAsks: a subdivision is told of a Bar alone, an order of Pages and a Gap alone. -/
namespace Go.Ai.G
open Go.Ai
set_option maxRecDepth 100000
set_option linter.unusedSimpArgs false
set_option linter.unusedVariables false
variable {A : AProg} {φ : Nat → Nat}
attribute [local simp ↓] getD_z getD_s hid_k hid_o hid_q hid_v PO_nil PO_none PO_grd PD_nil PD_none PD_grd PDO_N PDO_X PDO_call PDO_calli PDO_callv PSX_N PSX_X PSX_call PSX_calli PSX_callv PSX_inv
  PSX_callp PSX_panic PDO_inv PStep_inv thenC_pan blockC_pan loopC_pan endX_ret endX_norm endX_pan PStep_N PStep_X PStep_call PStep_calli PC_skip PC_lab PC_ret PC_exit PC_reg PC_draw
  PC_seq PC_block PC_loop PC_scope PC_cond thenC_norm thenC_ret thenC_exit blockC_norm blockC_ret blockC_exit loopC_norm loopC_ret loopC_exit endR_ret endR_norm
attribute [local simp] gz PDX_free PDX_eq KI_some n_mki n_tas0 n_tasf PStep_callv resK_none resK_t resK_tt KNO_val KNO_new KNO_ite KNO_map KXO_some KXO_ite KVA_t KVA_f KG_skip KG_tt KG_ff KG_tf KG_ft
  KB_true KB_false KNOD_val KNOD_new KNOD_ite n_mv n_pick n_bin n_eqB n_eqN n_eqS n_un n_conv n_fadd n_faddV n_fld1 n_fldN n_idx n_idxA n_idxV n_idxAV n_ext n_lenS n_lenS0 n_lenV
  n_lenT n_lenA n_min n_max n_build n_mkfn n_slc n_slc0 n_slcV n_slcA n_load1 n_loadN n_load1V n_loadNV n_alloc n_box n_bsl n_mksl n_nilcP n_nilcV n_nilcI n_nilcF x_store x_clear0
  x_clear b_add b_sub b_mul b_eql b_neq b_lss b_leq b_gtr b_geq b_and16 unV ntouch gather hide unhide evalOpd applyOuts int_bne int_beq ite_bool ite_int one_bool cells_bool one_int
  cells_int one_str cells_str one_nilp cells_nilp one_ptr cells_ptr one_nils cells_nils one_sl cells_sl one_nilf cells_nilf one_fn cells_fn one_nili cells_nili one_mp cells_mp
  one_nilm cells_nilm one_iface cells_iface one_vs cells_vs one_vp cells_vp cells_agg Nat.testBit setAt_1 setAt_2 closeds_nil closeds_cons closed_bool closed_int closed_str
  closed_nilp closed_nils closed_nilm closed_nilf closed_nili closed_agg closed_tup closed_vs closed_vp closed_iface closed_fn closeds_cI closeds_cE viewA_closed viewR_closed AV.scal
  AV.scal0 fillA repA part_bool part_int part_str part_nilp part_ptr part_nils part_sl part_nilm part_mp part_nilf part_fn part_nili part_iface part_agg part_vs part_vp viewA_sl1
  vaSl_cells wrap_0 wrap_1 wrap_2 wrap_m1 set_last get_last
theorem er114_0 (φ : Nat → Nat) : r114_0 φ = [
  ⟨0, .N .mv, [.c (.bool false)], none, 0⟩] := Eq.trans rfl rfl
theorem er114_1 (φ : Nat → Nat) : r114_1 φ = [
  ⟨0, .calli true (φ 84), [], none, 0⟩,
  ⟨1, .N .mv, [.l 0], none, 0⟩] := Eq.trans rfl rfl
theorem er114_2 (φ : Nat → Nat) : r114_2 φ = [
  ⟨0, .N (.bsl [.int .i64 0] 0 1 []), [], none, 0⟩,
  ⟨1, .N .mv, [.n 0], none, 0⟩,
  ⟨2, .N .mv, [.n 0], none, 0⟩,
  ⟨3, .N .lenS, [.l 0], none, 0⟩,
  ⟨4, .N .min, [.l 0, .c (.int .i64 200)], none, 0⟩,
  ⟨5, .N (.slc 1 false true false), [.l 3, .l 0], none, 0⟩,
  ⟨6, .X (.app 1 8), [.l 5, .l 0], none, 0⟩,
  ⟨7, .N .mv, [.l 0], none, 0⟩] := Eq.trans rfl rfl
theorem er114_3 (φ : Nat → Nat) : r114_3 φ = [
  ⟨0, .N .mv, [.n 0], none, 0⟩,
  ⟨1, .calli false (φ 85), [.l 0], none, 0⟩,
  ⟨2, .N .mv, [.l 0], none, 0⟩,
  ⟨3, .N (.ext 0), [.l 0], none, 0⟩,
  ⟨4, .N (.ext 1), [.l 1], none, 0⟩,
  ⟨5, .N .mv, [.l 1], none, 0⟩,
  ⟨6, .N .mv, [.l 1], none, 0⟩] := Eq.trans rfl rfl
theorem er114_4 (φ : Nat → Nat) : r114_4 φ = [
  ⟨0, .N .mv, [.n 3], none, 0⟩,
  ⟨1, .calli false (φ 105), [.l 0], none, 0⟩,
  ⟨2, .N .mv, [.l 0], none, 0⟩,
  ⟨3, .N (.ext 0), [.l 0], none, 0⟩,
  ⟨4, .N (.ext 1), [.l 1], none, 0⟩,
  ⟨5, .N (.alloc [.int .i64 0, .nils, .nils]), [], none, 0⟩,
  ⟨6, .X (.store 3), [.l 0, .l 2], none, 0⟩,
  ⟨7, .N .mv, [.l 2], none, 0⟩] := Eq.trans rfl rfl
theorem er114_5 (φ : Nat → Nat) : r114_5 φ = [
  ⟨0, .N .mv, [.n 3], none, 0⟩,
  ⟨1, .calli false (φ 103), [.l 0], none, 0⟩,
  ⟨2, .N .mv, [.l 0], none, 0⟩,
  ⟨3, .N (.ext 0), [.l 0], none, 0⟩,
  ⟨4, .N (.ext 1), [.l 1], none, 0⟩,
  ⟨5, .N .mv, [.l 1], none, 0⟩,
  ⟨6, .N .mv, [.l 1], none, 0⟩] := Eq.trans rfl rfl
theorem er114_6 (φ : Nat → Nat) : r114_6 φ = [
  ⟨0, .N .mv, [.n 0], none, 0⟩,
  ⟨1, .calli true (φ 86), [.l 0], none, 0⟩,
  ⟨2, .N (.un .not), [.l 0], none, 0⟩] := Eq.trans rfl rfl
theorem er114_7 (φ : Nat → Nat) : r114_7 φ = [
  ⟨0, .N .mv, [.n 2], none, 0⟩,
  ⟨1, .N .mv, [.l 0], none, 0⟩,
  ⟨2, .N .mv, [.n 5], some (.l 0, true), 0⟩,
  ⟨3, .N (.bin .eql), [.l 0, .c (.int .i64 7)], some (.l 1, true), 0⟩,
  ⟨4, .N .pick, [.l 2, .l 0, .c (.bool false)], none, 0⟩,
  ⟨5, .N .mv, [.l 0], none, 0⟩,
  ⟨6, .N .mv, [.n 7], some (.l 0, true), 0⟩,
  ⟨7, .N (.un .not), [.l 0], some (.l 1, true), 0⟩,
  ⟨8, .N .pick, [.l 2, .l 0, .c (.bool false)], none, 0⟩,
  ⟨9, .N .mv, [.l 0], none, 0⟩,
  ⟨10, .N .mv, [.n 6], some (.l 0, true), 0⟩,
  ⟨11, .N .lenS, [.l 0], some (.l 1, true), 0⟩,
  ⟨12, .N (.bin .eql), [.l 0, .c (.int .i64 0)], some (.l 2, true), 0⟩,
  ⟨13, .N .pick, [.l 3, .l 0, .c (.bool false)], none, 0⟩,
  ⟨14, .N .mv, [.l 0], none, 0⟩,
  ⟨15, .N (.fadd 0), [.n 4], some (.l 0, true), 0⟩,
  ⟨16, .N .load1, [.l 0], some (.l 1, true), 0⟩,
  ⟨17, .N (.bin .eql), [.l 0, .c (.int .i64 0)], some (.l 2, true), 0⟩,
  ⟨18, .N .pick, [.l 3, .l 0, .c (.bool false)], none, 0⟩,
  ⟨19, .N .mv, [.l 0], none, 0⟩,
  ⟨20, .N (.fadd 1), [.n 4], some (.l 0, true), 0⟩,
  ⟨21, .N .load1, [.l 0], some (.l 1, true), 0⟩,
  ⟨22, .N .lenS, [.l 0], some (.l 2, true), 0⟩,
  ⟨23, .N (.fadd 2), [.n 4], some (.l 3, true), 0⟩,
  ⟨24, .N .load1, [.l 0], some (.l 4, true), 0⟩,
  ⟨25, .N .lenS, [.l 0], some (.l 5, true), 0⟩,
  ⟨26, .N (.bin .add), [.l 3, .l 0], some (.l 6, true), 0⟩,
  ⟨27, .N (.bin .eql), [.l 0, .c (.int .i64 0)], some (.l 7, true), 0⟩,
  ⟨28, .N .pick, [.l 8, .l 0, .c (.bool false)], none, 0⟩,
  ⟨29, .N .mv, [.l 0], none, 0⟩,
  ⟨30, .calli false (φ 99), [.c (.nili)], some (.l 0, true), 0⟩,
  ⟨31, .N .lenS, [.l 0], some (.l 1, true), 0⟩,
  ⟨32, .N (.bin .eql), [.l 0, .c (.int .i64 0)], some (.l 2, true), 0⟩,
  ⟨33, .N .pick, [.l 3, .l 0, .c (.bool false)], none, 0⟩,
  ⟨34, .N .mv, [.l 0], none, 0⟩] := Eq.trans rfl rfl
theorem er114_8 (φ : Nat → Nat) : r114_8 φ = [
  ⟨0, .N (.bsl [.int .i64 0] 0 1 []), [], none, 0⟩,
  ⟨1, .N .mv, [.l 0], none, 0⟩] := Eq.trans rfl rfl
theorem er114_9 (φ : Nat → Nat) : r114_9 φ = [
  ⟨0, .N .mv, [.n 0], none, 0⟩,
  ⟨1, .N (.idx 1), [.l 0, .c (.int .i64 0)], none, 0⟩,
  ⟨2, .N .load1, [.l 0], none, 0⟩,
  ⟨3, .N (.bin .eql), [.l 0, .c (.int .i64 1)], none, 0⟩] := Eq.trans rfl rfl
theorem er114_10 (φ : Nat → Nat) : r114_10 φ = [
  ⟨0, .N .mv, [.n 0], none, 0⟩,
  ⟨1, .calli false (φ 112), [.l 0, .c (.int .i64 1)], none, 0⟩,
  ⟨2, .N .mv, [.l 0], none, 0⟩] := Eq.trans rfl rfl
theorem er114_11 (φ : Nat → Nat) : r114_11 φ = [
  ⟨0, .N .mv, [.n 0], none, 0⟩,
  ⟨1, .N (.idx 1), [.l 0, .c (.int .i64 0)], none, 0⟩,
  ⟨2, .N .load1, [.l 0], none, 0⟩,
  ⟨3, .N (.bin .eql), [.l 0, .c (.int .i64 5)], none, 0⟩] := Eq.trans rfl rfl
theorem er114_12 (φ : Nat → Nat) : r114_12 φ = [
  ⟨0, .N .mv, [.n 0], none, 0⟩,
  ⟨1, .calli false (φ 112), [.l 0, .c (.int .i64 3)], none, 0⟩,
  ⟨2, .N .mv, [.l 0], none, 0⟩] := Eq.trans rfl rfl
theorem er114_13 (φ : Nat → Nat) : r114_13 φ = [
  ⟨0, .N .mv, [.n 0], none, 0⟩,
  ⟨1, .N (.idx 1), [.l 0, .c (.int .i64 0)], none, 0⟩,
  ⟨2, .N .load1, [.l 0], none, 0⟩,
  ⟨3, .N (.bin .eql), [.l 0, .c (.int .i64 4)], none, 0⟩] := Eq.trans rfl rfl
theorem er114_14 (φ : Nat → Nat) : r114_14 φ = [
  ⟨0, .N .mv, [.n 0], none, 0⟩,
  ⟨1, .calli false (φ 113), [.l 0], none, 0⟩,
  ⟨2, .N (.alloc [.int .i64 0, .nils, .nils]), [], none, 0⟩,
  ⟨3, .X (.store 3), [.l 0, .l 1], none, 0⟩] := Eq.trans rfl rfl
theorem er114_15 (φ : Nat → Nat) : r114_15 φ = [
  ⟨0, .N .mv, [.n 5], none, 0⟩,
  ⟨1, .N (.bin .neq), [.l 0, .c (.int .i64 0)], none, 0⟩,
  ⟨2, .N .mv, [.l 0], none, 0⟩,
  ⟨3, .N (.fadd 0), [.n 4], some (.l 0, false), 0⟩,
  ⟨4, .N .load1, [.l 0], some (.l 1, false), 0⟩,
  ⟨5, .N (.fadd 0), [.n 9], some (.l 2, false), 0⟩,
  ⟨6, .N .load1, [.l 0], some (.l 3, false), 0⟩,
  ⟨7, .N (.bin .neq), [.l 2, .l 0], some (.l 4, false), 0⟩,
  ⟨8, .N .pick, [.l 5, .c (.bool true), .l 0], none, 0⟩,
  ⟨9, .N .mv, [.l 0], none, 0⟩,
  ⟨10, .N (.fadd 1), [.n 4], some (.l 0, false), 0⟩,
  ⟨11, .N .load1, [.l 0], some (.l 1, false), 0⟩,
  ⟨12, .N (.fadd 1), [.n 9], some (.l 2, false), 0⟩,
  ⟨13, .N .load1, [.l 0], some (.l 3, false), 0⟩,
  ⟨14, .calli true (φ 11), [.l 2, .l 0], some (.l 4, false), 0⟩,
  ⟨15, .N (.un .not), [.l 0], some (.l 5, false), 0⟩,
  ⟨16, .N .pick, [.l 6, .c (.bool true), .l 0], none, 0⟩,
  ⟨17, .N .mv, [.l 0], none, 0⟩,
  ⟨18, .N (.fadd 2), [.n 4], some (.l 0, false), 0⟩,
  ⟨19, .N .load1, [.l 0], some (.l 1, false), 0⟩,
  ⟨20, .N (.fadd 2), [.n 9], some (.l 2, false), 0⟩,
  ⟨21, .N .load1, [.l 0], some (.l 3, false), 0⟩,
  ⟨22, .calli true (φ 70), [.l 2, .l 0], some (.l 4, false), 0⟩,
  ⟨23, .N (.un .not), [.l 0], some (.l 5, false), 0⟩,
  ⟨24, .N .pick, [.l 6, .c (.bool true), .l 0], none, 0⟩] := Eq.trans rfl rfl
theorem er114_16 (φ : Nat → Nat) : r114_16 φ = [
  ⟨0, .N .mv, [.c (.bool false)], none, 0⟩] := Eq.trans rfl rfl
theorem er114_17 (φ : Nat → Nat) : r114_17 φ = [
  ⟨0, .N .mv, [.n 5], none, 0⟩,
  ⟨1, .N (.bin .neq), [.l 0, .c (.int .i64 7)], none, 0⟩,
  ⟨2, .N .mv, [.l 0], none, 0⟩,
  ⟨3, .N (.fadd 0), [.n 4], some (.l 0, false), 0⟩,
  ⟨4, .N .load1, [.l 0], some (.l 1, false), 0⟩,
  ⟨5, .N (.bin .neq), [.l 0, .c (.int .i64 0)], some (.l 2, false), 0⟩,
  ⟨6, .N .pick, [.l 3, .c (.bool true), .l 0], none, 0⟩,
  ⟨7, .N .mv, [.l 0], none, 0⟩,
  ⟨8, .N (.fadd 1), [.n 4], some (.l 0, false), 0⟩,
  ⟨9, .N .load1, [.l 0], some (.l 1, false), 0⟩,
  ⟨10, .N .lenS, [.l 0], some (.l 2, false), 0⟩,
  ⟨11, .N (.fadd 2), [.n 4], some (.l 3, false), 0⟩,
  ⟨12, .N .load1, [.l 0], some (.l 4, false), 0⟩,
  ⟨13, .N .lenS, [.l 0], some (.l 5, false), 0⟩,
  ⟨14, .N (.bin .add), [.l 3, .l 0], some (.l 6, false), 0⟩,
  ⟨15, .N (.bin .neq), [.l 0, .c (.int .i64 0)], some (.l 7, false), 0⟩,
  ⟨16, .N .pick, [.l 8, .c (.bool true), .l 0], none, 0⟩] := Eq.trans rfl rfl
theorem er114_18 (φ : Nat → Nat) : r114_18 φ = [
  ⟨0, .N .mv, [.c (.bool false)], none, 0⟩] := Eq.trans rfl rfl
theorem er114_19 (φ : Nat → Nat) : r114_19 φ = [
  ⟨0, .N .mv, [.n 2], none, 0⟩,
  ⟨1, .N .mv, [.l 0], none, 0⟩,
  ⟨2, .N .mv, [.n 7], some (.l 0, true), 0⟩,
  ⟨3, .N .mv, [.n 0], some (.l 1, true), 0⟩,
  ⟨4, .N (.idx 1), [.l 0, .c (.int .i64 0)], some (.l 2, true), 0⟩,
  ⟨5, .N .load1, [.l 0], some (.l 3, true), 0⟩,
  ⟨6, .N (.bin .eql), [.l 0, .c (.int .i64 1)], some (.l 4, true), 0⟩,
  ⟨7, .N .mv, [.l 0], some (.l 5, true), 0⟩,
  ⟨8, .N .mv, [.n 0], some (.l 0, false), 0⟩,
  ⟨9, .N (.idx 1), [.l 0, .c (.int .i64 0)], some (.l 1, false), 0⟩,
  ⟨10, .N .load1, [.l 0], some (.l 2, false), 0⟩,
  ⟨11, .N (.bin .eql), [.l 0, .c (.int .i64 5)], some (.l 3, false), 0⟩,
  ⟨12, .N .pick, [.l 4, .c (.bool true), .l 0], some (.l 10, true), 0⟩,
  ⟨13, .N (.eqB false), [.l 10, .l 0], some (.l 11, true), 0⟩,
  ⟨14, .N .pick, [.l 12, .l 0, .c (.bool false)], none, 0⟩,
  ⟨15, .N .mv, [.l 0], none, 0⟩,
  ⟨16, .N .mv, [.n 6], some (.l 0, true), 0⟩,
  ⟨17, .N .mv, [.n 8], some (.l 1, true), 0⟩,
  ⟨18, .calli true (φ 11), [.l 1, .l 0], some (.l 2, true), 0⟩,
  ⟨19, .N .pick, [.l 3, .l 0, .c (.bool false)], none, 0⟩,
  ⟨20, .N .mv, [.l 0], none, 0⟩] := Eq.trans rfl rfl
structure K22 (A : AProg) (φ : Nat → Nat) : Prop extends I22 A φ where
  rRow : Has A (φ 112) (f112 φ)
  rRows : Has A (φ 123) (f123 φ)
  rSub : Has A (φ 113) (f113 φ)
  sameRows : Has A (φ 70) (f70 φ)
/-- What Sub tells of a certificate. -/
def subV (φ : Nat → Nat) : CV → AV
  | .bar k t p => .tup [.agg [.int .i64 k, vI t, rR p], .int .i64 0]
  | _ => subNo
theorem len_mem {rs : List (List Int)} {q : List Int} (h : q ∈ rs) : q.length < (rs.flatMap putRow).length := by
  induction rs with
  | nil => simp at h
  | cons r rs ih =>
    rw [List.flatMap_cons, List.length_append]
    rcases List.mem_cons.1 h with rfl | h
    · simp [putRow]; omega
    · have := ih h; omega
theorem C22.csub (g : C22 A φ) (c : CV) (hn : (putC c).length < 1000000000) : PVal A (φ 105) [cvV φ c] (subV φ c) := by
  have ta := g.td.all
  have hcl := cvV_closed φ c
  cases c with
  | bar k t p =>
    simp only [putC, putRow, putRows, List.length_cons, List.length_append] at hn
    refine w_SubBar g.sub k (vI t) t p (isI_v t) (by omega) (by have := putRow_len p; omega) (fun q hq => by have := len_mem hq; omega) (rR_closed p)
  | pages o c => exact w_SubNo g.sub _ _ (by simp [ta]) hcl
  | narrow s u t => exact w_SubNo g.sub _ _ (by simp [ta]) hcl
  | ring o => exact w_SubNo g.sub _ _ (by simp [ta]) hcl
  | gap a b o => exact w_SubNo g.sub _ _ (by simp [ta]) hcl
  | refusal e c => exact w_SubNo g.sub _ _ (by simp [ta]) hcl
def ordV : CV → AV
  | .pages o _ => vI o
  | .gap _ _ o => vI o
  | _ => .nils
theorem C22.cord (g : C22 A φ) (c : CV) (hn : (putC c).length < 1000000000) : PVal A (φ 103) [cvV φ c] (.tup [ordV c, .bool (isOrd c)]) := by
  have ta := g.td.all
  cases c with
  | pages o c =>
    simp only [putC, putRow, List.length_cons, List.length_append] at hn
    exact w_OrderPages g.order g.clone (isI_v o) (isRows_rR c) (by omega)
  | gap a b o =>
    simp only [putC, putRow, List.length_cons] at hn
    exact w_OrderGap g.td g.order g.clone a b (isI_v o) (by omega)
  | bar k t p => exact w_OrderNo g.td g.order (by simp [ta]) (by simp [ta])
  | narrow s u t => exact w_OrderNo g.td g.order (by simp [ta]) (by simp [ta])
  | ring o => exact w_OrderNo g.td g.order (by simp [ta]) (by simp [ta])
  | refusal e c => exact w_OrderNo g.td g.order (by simp [ta]) (by simp [ta])
theorem cordNil (g : C22 A φ) : PVal A (φ 103) [.nili] (.tup [.nils, .bool false]) := w_OrderNil g.order
theorem vw_after {nl : Bool} {H : Heap} {v : AV} {sz n : Nat} {c : List AV} (hw : Vw nl H v sz n c) {G : Heap} (hG : ∀ b, blkOf v = some b → G[b]? = (frzOf H v)[b]?) : Vw nl G v sz n c ∧ frzOf G v = G := by
  have e : ∀ b, blkOf v = some b → ∀ K : Heap, frzOf K v = frzH [b] K := fun b hb K => by unfold frzOf; rw [hb]
  rcases hw with h | ⟨h0, b, g, cl, ex, ro, rfl, h1, h2⟩
  · refine ⟨.inl h, ?_⟩
    have : blkOf v = none := by
      obtain ⟨_, _, h⟩ := h
      cases nl
      · obtain ⟨b, g, o, rfl⟩ := h; simp [blkOf]
      · have : v = .nils := h
        subst this; rfl
    unfold frzOf; rw [this]
  · have hb : blkOf (.sl b g 0 n sz cl ex) = some b := by simp only [blkOf]; rw [if_neg (by omega)]
    have hf : G[b]? = some (.cells g true c) := by
      rw [hG b hb, e b hb]
      cases ro
      · simp only [frzH_cons _ _ _ _ h2, frzH_nil]; exact List.getElem?_set_self (lt_of_get h2)
      · simp only [frzH_ro _ _ _ _ h2, frzH_nil]; exact h2
    exact ⟨.inr ⟨h0, b, g, cl, ex, true, rfl, h1, hf⟩, by rw [e b hb, frzH_ro _ _ _ _ hf, frzH_nil]⟩
theorem vw_lt {nl : Bool} {H : Heap} {v : AV} {sz n : Nat} {c : List AV} (hw : Vw nl H v sz n c) {b : Nat} (hb : blkOf v = some b) : b < H.length := by
  rcases hw with ⟨_, _, h⟩ | ⟨h0, b', g, cl, ex, ro, rfl, h1, h2⟩
  · cases nl
    · obtain ⟨b, g, o, rfl⟩ := h; simp [blkOf] at hb
    · have : v = .nils := h
      subst this; cases hb
  · simp only [blkOf] at hb
    rw [if_neg (by omega)] at hb
    cases hb
    exact lt_of_get h2
theorem vw_more {nl : Bool} {H : Heap} {v : AV} {sz n : Nat} {c : List AV} (hw : Vw nl H v sz n c) (J : Heap) : Vw nl (frzOf H v ++ J) v sz n c ∧ frzOf (frzOf H v ++ J) v = frzOf H v ++ J :=
  vw_after hw fun b hb => List.getElem?_append_left (vw_lt hw.frz.1 hb)
set_option maxHeartbeats 8000000 in
theorem w_CertAsks (h : Has A (φ 114) (f114 φ)) (hS : PVal A (φ 84) [] (.bool true)) (g : K22 A φ) (v : AV) (l : List Int) (hv : IsI v l) :
    PVal A (φ 114) [v] (.bool true) := by
  have hsh := hS.eq
  have hlen := hv.len
  obtain ⟨v', o, H', s1, x1, x2, x3, x4⟩ := cutI (P := 0) (H := [Ob.cells 0 false []]) hv 200 (by omega) 0 (Nat.zero_le _)
  have hmin := minV_i (l.length : Int) 200
  have hmm : min (l.length : Int) 200 = ((min l.length 200 : Nat) : Int) := by omega
  rw [hmm] at hmin
  have hL : (l.take 200).length ≤ 200 := by simp; omega
  generalize l.take 200 = es at *
  have hw : Vw false H' o 1 es.length (cI es) := Own.vw x2
  have hc := closeds_cI es
  have va1 := hw.l1 hc
  obtain ⟨f1, f2, f3⟩ := hw.frz
  have vm := vw_more hw
  have q1 := Own.one x2
  have q2 := Own.cells x2
  simp only [rv_false] at va1
  generalize frzOf H' o = F at *
  have vb := fun J => (vm J).1.l1 hc
  have fz := fun J => (vm J).2
  simp only [rv_false, fz] at vb
  have c1 := (g.cread (isI_v es) (by omega)).eq
  have c2 := (g.cis (isI_v es) (by omega)).eq
  have c3 := (w_SubNil g.sub).eq
  have c4 := (cordNil g.toC22).eq
  have c5 := (w_IntsNil g.ints).eq
  refine pval_has h rfl ?_
  simp only [b114, f114]
  cases hr : readR es with
  | none =>
    have hR : isR es = false := by simp [isR, hr]
    rw [hr, readE_no hr] at c1
    rw [hR] at c2
    simp only [cvO] at c1
    simp [-List.getD_eq_getElem?_getD, -Int.ofNat_toNat, -getElem?_pos, er114_0, er114_1, er114_2, er114_3, er114_4, er114_5, er114_6, er114_7, er114_8, er114_9, er114_10, er114_11, er114_12, er114_13, er114_14, er114_15, er114_16, er114_17, er114_18, er114_19, hsh, hlen, foldV, hmin, s1, x1, va1, vb, c1, c2, c3, c4, c5, subNo, setAt, get_at, get_at0, set_at, set_at0, q1, q2, resK, resVs, resV, pack]
  | some c =>
    have hR : isR es = true := by simp [isR, hr]
    rw [hr, readE_ok hr] at c1
    rw [hR] at c2
    simp only [cvO] at c1
    obtain ⟨hE, hok⟩ := (readR_put _ _).1 hr
    obtain ⟨k1, k2, k3⟩ := cvV_ne φ c
    have k4 := cvV_closed φ c
    have cs := (g.csub c (by rw [← hE]; omega)).eq
    have co := (g.cord c (by rw [← hE]; omega)).eq
    have hne : es ≠ [] := by rw [hE]; cases c <;> simp [putC]
    have hpos : 0 < es.length := List.length_pos_iff.2 hne
    obtain ⟨b, gg, ex, ho⟩ : ∃ b gg ex, o = .sl b gg 0 es.length 1 es.length ex := by
      rcases x2 with ⟨h0, _⟩ | ⟨_, b, gg, ex, h1, _⟩
      · omega
      · exact ⟨b, gg, ex, h1⟩
    have hF := f3 b gg 0 _ ex ho hpos
    have hbl := lt_of_get hF
    have hFJ : ∀ J : Heap, (F ++ J)[b]? = some (.cells gg true (cI es)) := fun J => (List.getElem?_append_left hbl).trans hF
    have hhd : (cI es)[0]? = some (.int .i64 (kindC c)) := by
      have := putC_head c
      rw [List.head?_eq_getElem?, ← hE] at this
      simp [cI, this]
    have hp0 : (0 : Int) < (es.length : Int) := by omega
    have i0 : ∀ (q : IntKind) rd, nstep (.idx 1) [o, .int q 0] rd = some (.val (.ptr b gg 0)) := fun q rd => by rw [ho, n_idx, if_pos ⟨by omega, by omega⟩]; rfl
    have vb1 := fun J => (vm J).1.l2 hc (.int .i64 1) rfl
    have vb3 := fun J => (vm J).1.l2 hc (.int .i64 3) rfl
    simp only [rv_false, fz] at vb1 vb3
    have ve : ∀ (H : Heap) (k : Nat), viewA H [.nils, .sl k 0 0 0 1 0 true] = some ([.nils, .vs 0 1 []], H) := fun H k => by
      have := (Own.vw (ownI_empty 0 H k 0 0)).r2 (closeds_cI []) .nils rfl
      exact this
    have csn := (g.csame isI_nil (isI_v []) (by simp)).eq
    have cRow := fun k a t hl => (w_rRow g.rRow (isI_v es) (by omega) k (a := a) (t := t) hl).eq
    simp only [decide_true] at csn
    have hvn : vI [] = AV.vs 0 1 [] := rfl
    rw [hvn] at csn
    cases c with
    | pages oo cc =>
      have cR := cRow 1 oo (putRows cc) (by rw [hE]; rfl)
      have cE := (g.csame (isI_v oo) (isI_v oo) (by have := congrArg List.length hE; simp [putC, putRow] at this; omega)).eq
      have t1 := (isI_v oo).closed
      have t2 := (isI_v oo).one
      simp only [kindC, subV, ordV, isOrd, Int.cast_ofNat_Int, decide_true] at hhd cs co cR cE
      generalize hV : cvV φ (.pages oo cc) = V at *
      generalize vI oo = OO at *
      simp [-List.getD_eq_getElem?_getD, -Int.ofNat_toNat, -getElem?_pos, er114_0, er114_1, er114_2, er114_3, er114_4, er114_5, er114_6, er114_7, er114_8, er114_9, er114_10, er114_11, er114_12, er114_13, er114_14, er114_15, er114_16, er114_17, er114_18, er114_19, hsh, hlen, foldV, hmin, s1, x1, va1, vb, vb1, c1, c2, cs, co, cR, cE, k1, k2, k3, k4, t1, t2, q1, q2, i0, hFJ, hhd, viewA_closed, closeds_cons, subNo, setAt, get_at, get_at0, set_at, set_at0, resK, resVs, resV, pack]
    | gap a b oo =>
      have cR := cRow 3 oo [] (by rw [hE]; simp [putC])
      have cE := (g.csame (isI_v oo) (isI_v oo) (by have := congrArg List.length hE; simp [putC, putRow] at this; omega)).eq
      have t1 := (isI_v oo).closed
      have t2 := (isI_v oo).one
      simp only [kindC, subV, ordV, isOrd, Int.cast_ofNat_Int, decide_true] at hhd cs co cR cE
      generalize hV : cvV φ (.gap a b oo) = V at *
      generalize vI oo = OO at *
      simp [-List.getD_eq_getElem?_getD, -Int.ofNat_toNat, -getElem?_pos, er114_0, er114_1, er114_2, er114_3, er114_4, er114_5, er114_6, er114_7, er114_8, er114_9, er114_10, er114_11, er114_12, er114_13, er114_14, er114_15, er114_16, er114_17, er114_18, er114_19, hsh, hlen, foldV, hmin, s1, x1, va1, vb, vb3, c1, c2, cs, co, cR, cE, k1, k2, k3, k4, t1, t2, q1, q2, i0, hFJ, hhd, viewA_closed, closeds_cons, subNo, setAt, get_at, get_at0, set_at, set_at0, resK, resVs, resV, pack]
    | bar k t p =>
      have hlen2 := congrArg List.length hE
      simp only [putC, putRow, putRows, List.length_cons, List.length_append] at hlen2
      have hp := putRow_len p
      have cR := (w_rSub g.rSub g.rRows g.rRow (isI_v es) (by omega) hE).eq
      have cE := (g.csame (isI_v t) (isI_v t) (by omega)).eq
      have cF := (w_SameRows g.sameRows (fun v u xs ys hv hu hn => g.csame hv hu hn) (rR p) (rR p) p p (isRows_rR p) (isRows_rR p) (by omega) (fun q hq => by have := len_mem hq; omega)).eq
      have t1 := (isI_v t).closed
      have t2 := (isI_v t).one
      have t3 := (isI_v t).cells
      have r1 := rR_one p
      have r2 := rR_cells p
      have r3 := rR_closed p
      simp only [kindC, subV, ordV, isOrd, decide_true] at hhd cs co cE cF
      generalize hV : cvV φ (.bar k t p) = V at *
      generalize vI t = OO at *
      generalize rR p = R at *
      simp [-List.getD_eq_getElem?_getD, -Int.ofNat_toNat, -getElem?_pos, er114_0, er114_1, er114_2, er114_3, er114_4, er114_5, er114_6, er114_7, er114_8, er114_9, er114_10, er114_11, er114_12, er114_13, er114_14, er114_15, er114_16, er114_17, er114_18, er114_19, hsh, hlen, foldV, hmin, s1, x1, va1, vb, c1, c2, cs, co, cR, cE, cF, csn, ve, k1, k2, k3, k4, t1, t2, t3, r1, r2, r3, q1, q2, i0, hFJ, hhd, viewA_closed, closeds_cons, setAt, get_at, get_at0, set_at, set_at0, resK, resVs, resV, pack]
    | narrow s u t =>
      simp only [kindC, subV, ordV, isOrd] at hhd cs co
      generalize hV : cvV φ (.narrow s u t) = V at *
      simp [-List.getD_eq_getElem?_getD, -Int.ofNat_toNat, -getElem?_pos, er114_0, er114_1, er114_2, er114_3, er114_4, er114_5, er114_6, er114_7, er114_8, er114_9, er114_10, er114_11, er114_12, er114_13, er114_14, er114_15, er114_16, er114_17, er114_18, er114_19, hsh, hlen, foldV, hmin, s1, x1, va1, vb, c1, c2, cs, co, csn, ve, k1, k2, k3, k4, q1, q2, i0, hFJ, hhd, viewA_closed, closeds_cons, subNo, setAt, get_at, get_at0, set_at, set_at0, resK, resVs, resV, pack]
    | ring oo =>
      simp only [kindC, subV, ordV, isOrd] at hhd cs co
      generalize hV : cvV φ (.ring oo) = V at *
      simp [-List.getD_eq_getElem?_getD, -Int.ofNat_toNat, -getElem?_pos, er114_0, er114_1, er114_2, er114_3, er114_4, er114_5, er114_6, er114_7, er114_8, er114_9, er114_10, er114_11, er114_12, er114_13, er114_14, er114_15, er114_16, er114_17, er114_18, er114_19, hsh, hlen, foldV, hmin, s1, x1, va1, vb, c1, c2, cs, co, csn, ve, k1, k2, k3, k4, q1, q2, i0, hFJ, hhd, viewA_closed, closeds_cons, subNo, setAt, get_at, get_at0, set_at, set_at0, resK, resVs, resV, pack]
    | refusal e cc =>
      simp only [kindC, subV, ordV, isOrd] at hhd cs co
      generalize hV : cvV φ (.refusal e cc) = V at *
      simp [-List.getD_eq_getElem?_getD, -Int.ofNat_toNat, -getElem?_pos, er114_0, er114_1, er114_2, er114_3, er114_4, er114_5, er114_6, er114_7, er114_8, er114_9, er114_10, er114_11, er114_12, er114_13, er114_14, er114_15, er114_16, er114_17, er114_18, er114_19, hsh, hlen, foldV, hmin, s1, x1, va1, vb, c1, c2, cs, co, csn, ve, k1, k2, k3, k4, q1, q2, i0, hFJ, hhd, viewA_closed, closeds_cons, subNo, setAt, get_at, get_at0, set_at, set_at0, resK, resVs, resV, pack]
end Go.Ai.G
