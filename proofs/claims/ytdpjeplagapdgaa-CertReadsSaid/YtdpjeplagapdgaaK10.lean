/- A part of what the law leans on: the abstract machine, the contracts, the rows. -/
import Derived.Test.YtdpjeplagapdgaaK9
import Derived.Test.YtdpjeplagapdgaaK4
/- What is read is what was written. -/
namespace Go.Ai.G
open Go.Ai
set_option maxRecDepth 100000
set_option linter.unusedSimpArgs false
set_option linter.unusedVariables false
/-- The parser reads just what was put. -/
def Rds {α : Type} (p : List Int → Option (α × List Int)) (put : α → List Int) (ok : α → Prop) : Prop := ∀ l a t, p l = some (a, t) ↔ l = put a ++ t ∧ ok a
theorem rds_rep {α : Type} {p : List Int → Option (α × List Int)} {put : α → List Int} {ok : α → Prop} (h : Rds p put ok) : ∀ n, Rds (repP p n) (fun as => as.flatMap put) (fun as => as.length = n ∧ ∀ a ∈ as, ok a)
  | 0, l, as, t => by
    simp only [repP, Option.some.injEq, Prod.mk.injEq]
    constructor
    · rintro ⟨rfl, rfl⟩; exact ⟨rfl, rfl, fun a h => by simp at h⟩
    · rintro ⟨h1, h2, _⟩
      have : as = [] := List.length_eq_zero_iff.1 h2
      subst this
      exact ⟨rfl, h1⟩
  | n + 1, l, as, t => by
    have ih := rds_rep h n
    simp only [repP]
    constructor
    · intro e
      cases hp : p l with
      | none => rw [hp] at e; cases e
      | some y =>
        obtain ⟨a, l1⟩ := y
        rw [hp] at e
        simp only at e
        cases hr : repP p n l1 with
        | none => rw [hr] at e; cases e
        | some z =>
          obtain ⟨bs, l2⟩ := z
          rw [hr] at e
          simp only [Option.some.injEq, Prod.mk.injEq] at e
          obtain ⟨rfl, rfl⟩ := e
          obtain ⟨e1, e2⟩ := (h _ _ _).1 hp
          obtain ⟨e3, e4, e5⟩ := (ih _ _ _).1 hr
          refine ⟨by rw [e1, e3]; simp, by simp [e4], fun b hb => ?_⟩
          rcases List.mem_cons.1 hb with rfl | hb
          · exact e2
          · exact e5 b hb
    · rintro ⟨e1, e2, e3⟩
      cases as with
      | nil => simp at e2
      | cons a as =>
        have hp : p l = some (a, as.flatMap put ++ t) := (h _ _ _).2 ⟨by rw [e1]; simp, e3 a List.mem_cons_self⟩
        have hr : repP p n (as.flatMap put ++ t) = some (as, t) := (ih _ _ _).2 ⟨rfl, by simpa using e2, fun b hb => e3 b (List.mem_cons_of_mem _ hb)⟩
        rw [hp]; simp only; rw [hr]
theorem rds_row : Rds rowP putRow fun _ => True := fun l a t => by
  cases l with
  | nil => simp [rowP, cntP, putRow]
  | cons n r =>
    simp only [rowP, cntP_cons, Nat.div_one, putRow, List.cons_append, List.cons.injEq, and_true]
    constructor
    · intro h
      split at h
      · cases h
      · rename_i n' r' e
        split at e
        · rename_i hc
          cases e
          simp only [Option.some.injEq, Prod.mk.injEq] at h
          obtain ⟨rfl, rfl⟩ := h
          exact ⟨by rw [List.length_take]; omega, (List.take_append_drop _ _).symm⟩
        · cases e
    · rintro ⟨rfl, rfl⟩
      rw [if_pos ⟨by omega, by simp; omega⟩]
      simp
theorem rds_one : Rds oneP (fun x => [x]) fun _ => True := fun l a t => by
  cases l with
  | nil => simp [oneP]
  | cons n r => simp [oneP]
theorem rds_take (k : Nat) : Rds (takeP k) id fun a => a.length = k := fun l a t => by
  simp only [takeP, id]
  constructor
  · intro h
    split at h
    · rename_i hc
      simp only [Option.some.injEq, Prod.mk.injEq] at h
      obtain ⟨rfl, rfl⟩ := h
      exact ⟨(List.take_append_drop _ _).symm, by rw [List.length_take]; omega⟩
    · cases h
  · rintro ⟨rfl, rfl⟩
    rw [if_pos (by simp)]
    simp
theorem rds_cnt {α : Type} {p : List Int → Option (α × List Int)} {put : α → List Int} {ok : α → Prop} (h : Rds p put ok) (k : Nat) (hk : 0 < k) (hl : ∀ as : List α, (∀ a ∈ as, ok a) → as.length * k ≤ (as.flatMap put).length) :
    Rds (fun l => match cntP k l with
      | none => none
      | some (n, r) => repP p n r) (fun as => (as.length : Int) :: as.flatMap put) (fun as => ∀ a ∈ as, ok a) := fun l as t => by
  cases l with
  | nil => simp [cntP]
  | cons n r =>
    simp only [cntP_cons, List.cons_append, List.cons.injEq]
    constructor
    · intro e
      split at e
      · cases e
      · rename_i n' r' hc
        split at hc
        · rename_i hc'
          cases hc
          obtain ⟨e1, e2, e3⟩ := (rds_rep h _ _ _ _).1 e
          exact ⟨⟨by omega, e1⟩, e3⟩
        · cases hc
    · rintro ⟨⟨rfl, rfl⟩, h2⟩
      have hle := hl as h2
      have : as.length ≤ (as.flatMap put ++ t).length / k := (Nat.le_div_iff_mul_le hk).2 (by rw [List.length_append]; omega)
      rw [if_pos ⟨by omega, by omega⟩]
      exact (rds_rep h _ _ _ _).2 ⟨rfl, by simp, h2⟩
theorem rds_rows : Rds rowsP putRows fun _ => True := fun l as t => by
  have := rds_cnt rds_row 1 (by omega) (fun as _ => by have := putRow_len as; omega) l as t
  simp only [imp_true_iff] at this
  exact this
theorem rds_things (k : Nat) (hk : 0 < k) : Rds (thingsP k) (fun as => (as.length : Int) :: as.flatten) fun as => ∀ a ∈ as, a.length = k := fun l as t => by
  have := rds_cnt (rds_take k) k hk (fun as h => by rw [List.flatMap_id, flat_len h]; exact Nat.le_refl _) l as t
  simp only [List.flatMap_id] at this
  exact this
theorem rds_trees : Rds treesP putTrees fun ts => ∀ a ∈ ts, ∀ b ∈ a, b.length = 3 := fun l as t => by
  have hl : ∀ as : List (List (List Int)), as.length ≤ (as.flatMap fun as => (as.length : Int) :: as.flatten).length := fun as => by
    induction as with
    | nil => exact Nat.le_refl _
    | cons a as ih => simp only [List.flatMap_cons, List.length_append, List.length_cons]; omega
  have := rds_cnt (rds_things 3 (by omega)) 1 (by omega) (fun as _ => by have := hl as; omega) l as t
  exact this
theorem bindP_iff {α β : Type} (x : Option (α × List Int)) (f : α → List Int → Option (β × List Int)) (y : β × List Int) : bindP x f = some y ↔ ∃ a l, x = some (a, l) ∧ f a l = some y := by
  cases x with
  | none => simp [bindP]
  | some z => obtain ⟨a, l⟩ := z; simp [bindP, and_assoc]
theorem certP_iff (l t : List Int) (c : CV) : certP l = some (some c, t) ↔ l = putC c ++ t ∧ okC c := by
  constructor
  · intro h
    cases l with
    | nil => cases h
    | cons k r =>
      simp only [certP] at h
      split at h
      · rename_i hk
        subst hk
        simp only [bindP_iff] at h
        obtain ⟨o, l1, h1, c2, l2, h2, e⟩ := h
        simp only [Option.some.injEq, Prod.mk.injEq] at e
        obtain ⟨rfl, rfl⟩ := e
        obtain ⟨e1, _⟩ := (rds_row _ _ _).1 h1
        obtain ⟨e2, _⟩ := (rds_rows _ _ _).1 h2
        exact ⟨by rw [e1, e2]; simp [putC], trivial⟩
      split at h
      · rename_i hk
        subst hk
        simp only [bindP_iff] at h
        obtain ⟨o, l1, h1, c2, l2, h2, c3, l3, h3, e⟩ := h
        simp only [Option.some.injEq, Prod.mk.injEq] at e
        obtain ⟨rfl, rfl⟩ := e
        obtain ⟨e1, _⟩ := (rds_rows _ _ _).1 h1
        obtain ⟨e2, _⟩ := (rds_row _ _ _).1 h2
        obtain ⟨e3, e4⟩ := (rds_trees _ _ _).1 h3
        exact ⟨by rw [e1, e2, e3]; simp [putC], e4⟩
      split at h
      · rename_i hk
        subst hk
        simp only [bindP_iff] at h
        obtain ⟨o, l1, h1, e⟩ := h
        simp only [Option.some.injEq, Prod.mk.injEq] at e
        obtain ⟨rfl, rfl⟩ := e
        obtain ⟨e1, _⟩ := (rds_row _ _ _).1 h1
        exact ⟨by rw [e1]; simp [putC], trivial⟩
      split at h
      · rename_i hk
        subst hk
        simp only [bindP_iff] at h
        obtain ⟨o, l1, h1, c2, l2, h2, c3, l3, h3, e⟩ := h
        simp only [Option.some.injEq, Prod.mk.injEq] at e
        obtain ⟨rfl, rfl⟩ := e
        obtain ⟨e1, _⟩ := (rds_one _ _ _).1 h1
        obtain ⟨e2, _⟩ := (rds_row _ _ _).1 h2
        obtain ⟨e3, _⟩ := (rds_rows _ _ _).1 h3
        exact ⟨by rw [e1, e2, e3]; simp [putC], trivial⟩
      split at h
      · rename_i hk
        subst hk
        simp only [bindP_iff] at h
        obtain ⟨o, l1, h1, c2, l2, h2, c3, l3, h3, e⟩ := h
        simp only [Option.some.injEq, Prod.mk.injEq] at e
        obtain ⟨rfl, rfl⟩ := e
        obtain ⟨e1, _⟩ := (rds_one _ _ _).1 h1
        obtain ⟨e2, _⟩ := (rds_one _ _ _).1 h2
        obtain ⟨e3, _⟩ := (rds_row _ _ _).1 h3
        exact ⟨by rw [e1, e2, e3]; simp [putC], trivial⟩
      split at h
      · rename_i hk
        subst hk
        simp only [bindP_iff] at h
        obtain ⟨o, l1, h1, c2, l2, h2, e⟩ := h
        simp only [Option.some.injEq, Prod.mk.injEq] at e
        obtain ⟨rfl, rfl⟩ := e
        obtain ⟨e1, _⟩ := (rds_one _ _ _).1 h1
        obtain ⟨e2, e3⟩ := (rds_things 6 (by omega) _ _ _).1 h2
        exact ⟨by rw [e1, e2]; simp [putC], e3⟩
      · cases h
  · rintro ⟨rfl, hok⟩
    cases c with
    | pages o c =>
      simp only [putC, List.cons_append, certP, if_true, bindP_iff]
      exact ⟨o, _, (rds_row _ _ _).2 ⟨by first | exact List.append_assoc _ _ _ | simp only [List.append_assoc], trivial⟩, c, t, (rds_rows _ _ _).2 ⟨rfl, trivial⟩, rfl⟩
    | narrow s u ts =>
      simp only [putC, List.cons_append, certP, if_true, bindP_iff]
      rw [if_neg (by decide)]
      simp only [bindP_iff]
      exact ⟨s, _, (rds_rows _ _ _).2 ⟨by first | exact List.append_assoc _ _ _ | simp only [List.append_assoc], trivial⟩, u, _, (rds_row _ _ _).2 ⟨rfl, trivial⟩, ts, t, (rds_trees _ _ _).2 ⟨rfl, hok⟩, rfl⟩
    | ring o =>
      simp only [putC, List.cons_append, certP]
      rw [if_neg (by decide), if_neg (by decide), if_pos trivial]
      simp only [bindP_iff]
      exact ⟨o, t, (rds_row _ _ _).2 ⟨rfl, trivial⟩, rfl⟩
    | bar k s p =>
      simp only [putC, List.cons_append, certP]
      rw [if_neg (by decide), if_neg (by decide), if_neg (by decide), if_pos trivial]
      simp only [bindP_iff]
      exact ⟨k, putRow s ++ putRows p ++ t, (rds_one _ _ _).2 ⟨rfl, trivial⟩, s, putRows p ++ t, (rds_row _ _ _).2 ⟨List.append_assoc _ _ _, trivial⟩, p, t, (rds_rows _ _ _).2 ⟨rfl, trivial⟩, rfl⟩
    | gap a b o =>
      simp only [putC, List.cons_append, certP]
      rw [if_neg (by decide), if_neg (by decide), if_neg (by decide), if_neg (by decide), if_pos trivial]
      simp only [bindP_iff]
      exact ⟨a, _, (rds_one _ _ _).2 ⟨rfl, trivial⟩, b, _, (rds_one _ _ _).2 ⟨rfl, trivial⟩, o, t, (rds_row _ _ _).2 ⟨rfl, trivial⟩, rfl⟩
    | refusal e c =>
      simp only [putC, List.cons_append, certP]
      rw [if_neg (by decide), if_neg (by decide), if_neg (by decide), if_neg (by decide), if_neg (by decide), if_pos trivial]
      simp only [bindP_iff]
      exact ⟨e, _, (rds_one _ _ _).2 ⟨rfl, trivial⟩, c, t, (rds_things 6 (by omega) _ _ _).2 ⟨rfl, hok⟩, rfl⟩
theorem readR_put (l : List Int) (c : CV) : readR l = some c ↔ l = putC c ∧ okC c := by
  rw [readR_iff, certP_iff, List.append_nil]
theorem putC_head : ∀ (c : CV), (putC c).head? = some (kindC c)
  | .pages _ _ => rfl
  | .narrow _ _ _ => rfl
  | .ring _ => rfl
  | .bar _ _ _ => rfl
  | .gap _ _ _ => rfl
  | .refusal _ _ => rfl
end Go.Ai.G
/- The contracts of layer 22, together; what must be in any case. -/
namespace Go.Ai.G
open Go.Ai
set_option maxRecDepth 100000
set_option linter.unusedSimpArgs false
set_option linter.unusedVariables false
variable {A : AProg} {φ : Nat → Nat}
attribute [local simp ↓] getD_z getD_s hid_k hid_o hid_q hid_v PO_nil PO_none PO_grd PD_nil PD_none PD_grd PDO_N PDO_X PDO_call PDO_calli PDO_callv PSX_N PSX_X PSX_call PSX_calli PSX_callv PSX_inv
  PSX_callp PSX_panic PDO_inv PStep_inv thenC_pan blockC_pan loopC_pan endX_ret endX_norm endX_pan PStep_N PStep_X PStep_call PStep_calli PC_skip PC_lab PC_ret PC_exit PC_reg PC_draw
  PC_seq PC_block PC_loop PC_scope PC_cond thenC_norm thenC_ret thenC_exit blockC_norm blockC_ret blockC_exit loopC_norm loopC_ret loopC_exit endR_ret endR_norm
attribute [local simp] gz PDX_free PDX_eq KI_some n_mki n_tas0 n_tasf PStep_callv resK_none resK_t resK_tt KNO_val KNO_new KNO_ite KNO_map KXO_some KXO_ite KVA_t KVA_f KG_skip KG_tt KG_ff KG_tf KG_ft
  KB_true KB_false KNOD_val KNOD_new KNOD_ite n_mv n_pick n_bin n_eqB n_eqN n_eqS n_un n_conv n_fadd n_faddV n_fld1 n_fldN n_idx n_idxA n_idxV n_idxAV n_ext n_lenS n_lenS0 n_lenV
  n_lenT n_lenA n_min n_max n_build n_mkfn n_slc n_slc0 n_slcV n_slcA n_load1 n_loadN n_load1V n_loadNV n_alloc n_box n_bsl n_mksl n_nilcP n_nilcV n_nilcI n_nilcF x_store x_clear0
  x_clear b_add b_sub b_mul b_eql b_neq b_lss b_leq b_gtr b_geq b_and16 unV ntouch gather hide unhide evalOpd applyOuts int_bne int_beq ite_bool ite_int one_bool cells_bool one_int
  cells_int one_str cells_str one_nilp cells_nilp one_ptr cells_ptr one_nils cells_nils one_sl cells_sl one_nilf cells_nilf one_fn cells_fn one_nili cells_nili one_mp cells_mp
  one_nilm cells_nilm one_iface cells_iface one_vs cells_vs one_vp cells_vp cells_agg Nat.testBit setAt_1 setAt_2 closeds_nil closeds_cons closed_bool closed_int closed_str
  closed_nilp closed_nils closed_nilm closed_nilf closed_nili closed_agg closed_tup closed_vs closed_vp closed_iface closed_fn closeds_cI closeds_cE viewA_closed viewR_closed AV.scal
  AV.scal0 fillA repA part_bool part_int part_str part_nilp part_ptr part_nils part_sl part_nilm part_mp part_nilf part_fn part_nili part_iface part_agg part_vs part_vp viewA_sl1
  vaSl_cells wrap_0 wrap_1 wrap_2 wrap_m1 set_last get_last
theorem er84_0 (φ : Nat → Nat) : r84_0 φ = [
  ⟨0, .N .mv, [.c (.bool false)], none, 0⟩] := Eq.trans rfl rfl
theorem er84_1 (φ : Nat → Nat) : r84_1 φ = [
  ⟨0, .N (.bsl [.int .i64 0] 3 1 [(0, 1), (1, 1), (2, 1)]), [.c (.int .i64 0), .c (.int .i64 1), .c (.int .i64 2)], none, 0⟩,
  ⟨1, .N (.build [.int .i64 0, .int .i64 0, .nils] [(0, 1), (1, 1), (2, 1)]), [.c (.int .i64 0), .c (.int .i64 2), .l 0], none, 0⟩,
  ⟨2, .N (.mki (φ 89)), [.l 0], none, 0⟩,
  ⟨3, .calli false (φ 99), [.l 0], none, 0⟩,
  ⟨4, .N .mv, [.l 0], none, 0⟩] := Eq.trans rfl rfl
theorem er84_2 (φ : Nat → Nat) : r84_2 φ = [
  ⟨0, .N (.bsl [.int .i64 0] 5 1 [(0, 1), (1, 1), (2, 1), (3, 1), (4, 1)]), [.c (.int .i64 3), .c (.int .i64 3), .c (.int .i64 1), .c (.int .i64 2), .c (.int .i64 3)], none, 0⟩,
  ⟨1, .calli false (φ 85), [.l 0], none, 0⟩,
  ⟨2, .N .mv, [.l 0], none, 0⟩,
  ⟨3, .N (.ext 0), [.l 0], none, 0⟩,
  ⟨4, .N (.ext 1), [.l 1], none, 0⟩,
  ⟨5, .N .mv, [.l 1], none, 0⟩,
  ⟨6, .N .mv, [.l 1], none, 0⟩] := Eq.trans rfl rfl
theorem er84_3 (φ : Nat → Nat) : r84_3 φ = [
  ⟨0, .N (.bsl [.int .i64 0] 5 1 [(0, 1), (1, 1), (2, 1), (3, 1), (4, 1)]), [.c (.int .i64 3), .c (.int .i64 4), .c (.int .i64 1), .c (.int .i64 2), .c (.int .i64 3)], none, 0⟩,
  ⟨1, .calli false (φ 85), [.l 0], none, 0⟩,
  ⟨2, .N .mv, [.l 0], none, 0⟩,
  ⟨3, .N (.ext 0), [.l 0], none, 0⟩,
  ⟨4, .N (.ext 1), [.l 1], none, 0⟩,
  ⟨5, .N .mv, [.l 1], none, 0⟩,
  ⟨6, .N .mv, [.l 1], none, 0⟩] := Eq.trans rfl rfl
theorem er84_4 (φ : Nat → Nat) : r84_4 φ = [
  ⟨0, .N (.bsl [.int .i64 0] 1 1 [(0, 1)]), [.c (.int .i64 7)], none, 0⟩,
  ⟨1, .N (.build [.int .i64 0, .int .i64 0, .nils] [(2, 1)]), [.l 0], none, 0⟩,
  ⟨2, .N (.mki (φ 89)), [.l 0], none, 0⟩,
  ⟨3, .calli false (φ 103), [.l 0], none, 0⟩,
  ⟨4, .N .mv, [.l 0], none, 0⟩,
  ⟨5, .N (.ext 0), [.l 0], none, 0⟩,
  ⟨6, .N (.ext 1), [.l 1], none, 0⟩,
  ⟨7, .N .mv, [.l 1], none, 0⟩,
  ⟨8, .N .mv, [.l 1], none, 0⟩] := Eq.trans rfl rfl
theorem er84_5 (φ : Nat → Nat) : r84_5 φ = [
  ⟨0, .N .mv, [.n 2], none, 0⟩,
  ⟨1, .calli false (φ 103), [.l 0], none, 0⟩,
  ⟨2, .N .mv, [.l 0], none, 0⟩,
  ⟨3, .N (.ext 0), [.l 0], none, 0⟩,
  ⟨4, .N (.ext 1), [.l 1], none, 0⟩,
  ⟨5, .N .mv, [.l 1], none, 0⟩,
  ⟨6, .N .mv, [.l 1], none, 0⟩] := Eq.trans rfl rfl
theorem er84_6 (φ : Nat → Nat) : r84_6 φ = [
  ⟨0, .N (.build [.int .i64 0, .nils, .nils] [(0, 1)]), [.c (.int .i64 2)], none, 0⟩,
  ⟨1, .N (.build [.int .i64 0, .nils, .nils] [(0, 3)]), [.l 0], none, 0⟩,
  ⟨2, .N (.mki (φ 87)), [.l 0], none, 0⟩,
  ⟨3, .calli false (φ 105), [.l 0], none, 0⟩,
  ⟨4, .N .mv, [.l 0], none, 0⟩,
  ⟨5, .N (.ext 0), [.l 0], none, 0⟩,
  ⟨6, .N (.ext 1), [.l 1], none, 0⟩,
  ⟨7, .N (.alloc [.int .i64 0, .nils, .nils]), [], none, 0⟩,
  ⟨8, .X (.store 3), [.l 0, .l 2], none, 0⟩,
  ⟨9, .N .mv, [.l 2], none, 0⟩] := Eq.trans rfl rfl
theorem er84_7 (φ : Nat → Nat) : r84_7 φ = [
  ⟨0, .N .mv, [.n 2], none, 0⟩,
  ⟨1, .calli false (φ 105), [.l 0], none, 0⟩,
  ⟨2, .N .mv, [.l 0], none, 0⟩,
  ⟨3, .N (.ext 0), [.l 0], none, 0⟩,
  ⟨4, .N (.ext 1), [.l 1], none, 0⟩,
  ⟨5, .N (.alloc [.int .i64 0, .nils, .nils]), [], none, 0⟩,
  ⟨6, .X (.store 3), [.l 0, .l 2], none, 0⟩,
  ⟨7, .N .mv, [.l 2], none, 0⟩] := Eq.trans rfl rfl
theorem er84_8 (φ : Nat → Nat) : r84_8 φ = [
  ⟨0, .N .mv, [.n 3], none, 0⟩,
  ⟨1, .N (.bin .neq), [.l 0, .c (.int .i64 0)], none, 0⟩,
  ⟨2, .N .mv, [.l 0], none, 0⟩,
  ⟨3, .N .mv, [.n 2], some (.l 0, false), 0⟩,
  ⟨4, .N (.eqN 4 false), [.l 0, .c (.nili)], some (.l 1, false), 0⟩,
  ⟨5, .N .pick, [.l 2, .c (.bool true), .l 0], none, 0⟩] := Eq.trans rfl rfl
theorem er84_9 (φ : Nat → Nat) : r84_9 φ = [
  ⟨0, .N .mv, [.c (.bool false)], none, 0⟩] := Eq.trans rfl rfl
theorem er84_10 (φ : Nat → Nat) : r84_10 φ = [
  ⟨0, .N .mv, [.n 1], none, 0⟩,
  ⟨1, .N (.bsl [.int .i64 0] 7 1 [(0, 1), (1, 1), (2, 1), (3, 1), (4, 1), (5, 1), (6, 1)]), [.c (.int .i64 5), .c (.int .i64 0), .c (.int .i64 2), .c (.int .i64 3), .c (.int .i64 0), .c (.int .i64 1), .c (.int .i64 2)], none, 0⟩,
  ⟨2, .calli true (φ 11), [.l 1, .l 0], none, 0⟩,
  ⟨3, .N .mv, [.l 0], none, 0⟩,
  ⟨4, .N .mv, [.n 2], some (.l 0, true), 0⟩,
  ⟨5, .inv [(φ 87, φ 88), (φ 89, φ 90), (φ 91, φ 92), (φ 93, φ 94), (φ 95, φ 96), (φ 97, φ 98)], [.l 0], some (.l 1, true), 0⟩,
  ⟨6, .N (.bin .eql), [.l 0, .c (.int .i64 3)], some (.l 2, true), 0⟩,
  ⟨7, .N .pick, [.l 3, .l 0, .c (.bool false)], none, 0⟩,
  ⟨8, .N .mv, [.l 0], none, 0⟩,
  ⟨9, .N .mv, [.n 4], some (.l 0, true), 0⟩,
  ⟨10, .N (.bin .eql), [.l 0, .c (.int .i64 3)], some (.l 1, true), 0⟩,
  ⟨11, .N .pick, [.l 2, .l 0, .c (.bool false)], none, 0⟩,
  ⟨12, .N .mv, [.l 0], none, 0⟩,
  ⟨13, .N .mv, [.n 6], some (.l 0, true), 0⟩,
  ⟨14, .N .pick, [.l 1, .l 0, .c (.bool false)], none, 0⟩,
  ⟨15, .N .mv, [.l 0], none, 0⟩,
  ⟨16, .N .mv, [.n 7], some (.l 0, true), 0⟩,
  ⟨17, .N (.un .not), [.l 0], some (.l 1, true), 0⟩,
  ⟨18, .N .pick, [.l 2, .l 0, .c (.bool false)], none, 0⟩,
  ⟨19, .N .mv, [.l 0], none, 0⟩,
  ⟨20, .N .mv, [.n 5], some (.l 0, true), 0⟩,
  ⟨21, .N .lenS, [.l 0], some (.l 1, true), 0⟩,
  ⟨22, .N (.bin .eql), [.l 0, .c (.int .i64 1)], some (.l 2, true), 0⟩,
  ⟨23, .N .pick, [.l 3, .l 0, .c (.bool false)], none, 0⟩,
  ⟨24, .N .mv, [.l 0], none, 0⟩,
  ⟨25, .N .mv, [.n 5], some (.l 0, true), 0⟩,
  ⟨26, .N (.idx 1), [.l 0, .c (.int .i64 0)], some (.l 1, true), 0⟩,
  ⟨27, .N .load1, [.l 0], some (.l 2, true), 0⟩,
  ⟨28, .N (.bin .eql), [.l 0, .c (.int .i64 7)], some (.l 3, true), 0⟩,
  ⟨29, .N .pick, [.l 4, .l 0, .c (.bool false)], none, 0⟩,
  ⟨30, .N .mv, [.l 0], none, 0⟩,
  ⟨31, .N (.fadd 0), [.n 8], some (.l 0, true), 0⟩,
  ⟨32, .N .load1, [.l 0], some (.l 1, true), 0⟩,
  ⟨33, .N (.bin .eql), [.l 0, .c (.int .i64 2)], some (.l 2, true), 0⟩,
  ⟨34, .N .pick, [.l 3, .l 0, .c (.bool false)], none, 0⟩,
  ⟨35, .N .mv, [.l 0], none, 0⟩,
  ⟨36, .N .mv, [.n 9], some (.l 0, true), 0⟩,
  ⟨37, .N (.bin .eql), [.l 0, .c (.int .i64 0)], some (.l 1, true), 0⟩,
  ⟨38, .N .pick, [.l 2, .l 0, .c (.bool false)], none, 0⟩,
  ⟨39, .N .mv, [.l 0], none, 0⟩,
  ⟨40, .N .mv, [.n 10], some (.l 0, true), 0⟩,
  ⟨41, .N (.bin .eql), [.l 0, .c (.int .i64 7)], some (.l 1, true), 0⟩,
  ⟨42, .N .pick, [.l 2, .l 0, .c (.bool false)], none, 0⟩,
  ⟨43, .N .mv, [.l 0], none, 0⟩] := Eq.trans rfl rfl
structure C22 (A : AProg) (φ : Nat → Nat) : Prop where
  td : TyD φ
  read : A.ext (φ 85) = some (readExt φ)
  sub : A.ext (φ 105) = some (subExt φ)
  ints : Has A (φ 99) (f99 φ)
  crow : Has A (φ 120) (f120 φ)
  crows : Has A (φ 121) (f121 φ)
  order : Has A (φ 103) (f103 φ)
  clone : Has A (φ 122) (f122 φ)
  kinds : KH A φ
  same : Has A (φ 11) (f11 φ)
theorem cvV_ne (φ : Nat → Nat) (c : CV) : (cvV φ c).one = true ∧ (cvV φ c).cells = [cvV φ c] ∧ AV.isNilK 4 (cvV φ c) = some false := by
  cases c <;> exact ⟨rfl, rfl, rfl⟩
theorem C22.cread (g : C22 A φ) {v : AV} {l : List Int} (hv : IsI v l) (hn : l.length < 1000000000) : PVal A (φ 85) [v] (.tup [cvO φ (readR l), .int .i64 (readE l)]) := w_ReadV g.read v l hv hn (cvO_closed φ _)
theorem C22.csame (g : C22 A φ) {v u : AV} {xs ys : List Int} (hv : IsI v xs) (hu : IsI u ys) (hn : xs.length < 1000000000000) : PVal A (φ 11) [v, u] (.bool (decide (xs = ys))) := w_Same g.same v u xs ys hv hu hn
theorem C22.cints (g : C22 A φ) {v : AV} {c : CV} (hv : IsCV φ v c) (hn : (putC c).length < 100000000000) : PVal A (φ 99) [v] (vI (putC c)) := w_Ints g.td g.ints g.crow g.crows hv hn
set_option maxHeartbeats 4000000 in
theorem w_shown22 (h : Has A (φ 84) (f84 φ)) (g : C22 A φ) : PVal A (φ 84) [] (.bool true) := by
  have hr1 : readR [3, 3, 1, 2, 3] = some (.ring [1, 2, 3]) := (readR_put _ _).2 ⟨rfl, trivial⟩
  have hr2 : readR [3, 4, 1, 2, 3] = none := rfl
  have c1 := (g.cints (.gap 0 2 (isI_v [0, 1, 2])) (by simp [putC, putRow])).eq
  have c2 := (g.cread (isI_v [3, 3, 1, 2, 3]) (by simp)).eq
  have c3 := (g.cread (isI_v [3, 4, 1, 2, 3]) (by simp)).eq
  have c4 := (w_OrderGap g.td g.order g.clone 0 0 (isI_v [7]) (by simp)).eq
  have c5 := (w_OrderNo g.td g.order (t := φ 97) (x := .agg [vI [1, 2, 3]]) (by simp [g.td.all]) (by simp [g.td.all])).eq
  have c6 := (w_SubBar g.sub 2 .nils [] [] isI_nil (by simp) (by simp) (by simp) rfl).eq
  have c7 := (w_SubNo g.sub (φ 97) (.agg [vI [1, 2, 3]]) (by simp [g.td.all]) rfl).eq
  have c8 := (g.csame (isI_v [5, 0, 2, 3, 0, 1, 2]) (isI_v [5, 0, 2, 3, 0, 1, 2]) (by simp)).eq
  have e1 : readE [3, 3, 1, 2, 3] = 0 := by simp [readE, hr1]
  have e2 : readE [3, 4, 1, 2, 3] = 3 := by simp [readE, hr2]
  rw [hr1, e1] at c2
  rw [hr2, e2] at c3
  have va1 : viewA [.cells 0 false [.int .i64 0, .int .i64 1, .int .i64 2]] [.iface (φ 89) (.agg [.int .i64 0, .int .i64 2, .sl 0 0 0 3 1 3 true])] = some ([.iface (φ 89) (.agg [.int .i64 0, .int .i64 2, vI [0, 1, 2]])], [.cells 0 true [.int .i64 0, .int .i64 1, .int .i64 2]]) := rfl
  have va2 : viewA [.cells 0 true [.int .i64 0, .int .i64 1, .int .i64 2], .cells 0 false [.int .i64 3, .int .i64 3, .int .i64 1, .int .i64 2, .int .i64 3]] [.sl 1 0 0 5 1 5 true] = some ([vI [3, 3, 1, 2, 3]], [.cells 0 true [.int .i64 0, .int .i64 1, .int .i64 2], .cells 0 true [.int .i64 3, .int .i64 3, .int .i64 1, .int .i64 2, .int .i64 3]]) := rfl
  have va3 : viewA [.cells 0 true [.int .i64 0, .int .i64 1, .int .i64 2], .cells 0 true [.int .i64 3, .int .i64 3, .int .i64 1, .int .i64 2, .int .i64 3], .cells 0 false [.int .i64 3, .int .i64 4, .int .i64 1, .int .i64 2, .int .i64 3]] [.sl 2 0 0 5 1 5 true] = some ([vI [3, 4, 1, 2, 3]], [.cells 0 true [.int .i64 0, .int .i64 1, .int .i64 2], .cells 0 true [.int .i64 3, .int .i64 3, .int .i64 1, .int .i64 2, .int .i64 3], .cells 0 true [.int .i64 3, .int .i64 4, .int .i64 1, .int .i64 2, .int .i64 3]]) := rfl
  have va4 : viewA [.cells 0 true [.int .i64 0, .int .i64 1, .int .i64 2], .cells 0 true [.int .i64 3, .int .i64 3, .int .i64 1, .int .i64 2, .int .i64 3], .cells 0 true [.int .i64 3, .int .i64 4, .int .i64 1, .int .i64 2, .int .i64 3], .cells 0 false [.int .i64 7]] [.iface (φ 89) (.agg [.int .i64 0, .int .i64 0, .sl 3 0 0 1 1 1 true])] = some ([.iface (φ 89) (.agg [.int .i64 0, .int .i64 0, vI [7]])], [.cells 0 true [.int .i64 0, .int .i64 1, .int .i64 2], .cells 0 true [.int .i64 3, .int .i64 3, .int .i64 1, .int .i64 2, .int .i64 3], .cells 0 true [.int .i64 3, .int .i64 4, .int .i64 1, .int .i64 2, .int .i64 3], .cells 0 true [.int .i64 7]]) := rfl
  have va5 : viewA [.cells 0 true [.int .i64 0, .int .i64 1, .int .i64 2], .cells 0 true [.int .i64 3, .int .i64 3, .int .i64 1, .int .i64 2, .int .i64 3], .cells 0 true [.int .i64 3, .int .i64 4, .int .i64 1, .int .i64 2, .int .i64 3], .cells 0 true [.int .i64 7], .cells 0 false [.int .i64 2, .nils, .nils], .cells 0 false [.int .i64 0, .nils, .nils], .cells 0 false [.int .i64 5, .int .i64 0, .int .i64 2, .int .i64 3, .int .i64 0, .int .i64 1, .int .i64 2]] [vI [5, 0, 2, 3, 0, 1, 2], .sl 6 0 0 7 1 7 true] = some ([vI [5, 0, 2, 3, 0, 1, 2], vI [5, 0, 2, 3, 0, 1, 2]], [.cells 0 true [.int .i64 0, .int .i64 1, .int .i64 2], .cells 0 true [.int .i64 3, .int .i64 3, .int .i64 1, .int .i64 2, .int .i64 3], .cells 0 true [.int .i64 3, .int .i64 4, .int .i64 1, .int .i64 2, .int .i64 3], .cells 0 true [.int .i64 7], .cells 0 false [.int .i64 2, .nils, .nils], .cells 0 false [.int .i64 0, .nils, .nils], .cells 0 true [.int .i64 5, .int .i64 0, .int .i64 2, .int .i64 3, .int .i64 0, .int .i64 1, .int .i64 2]]) := rfl
  have hp : putC (.gap 0 2 [0, 1, 2]) = [5, 0, 2, 3, 0, 1, 2] := rfl
  rw [hp] at c1
  simp only [decide_true] at c8
  have hc1 := (isI_v [5, 0, 2, 3, 0, 1, 2]).closed
  have hc2 := (isI_v [5, 0, 2, 3, 0, 1, 2]).one
  have hc3 := (isI_v [1, 2, 3]).closed
  have hc4 := (isI_v [1, 2, 3]).one
  have hc5 := (isI_v [7]).one
  have hc6 : (cI [7])[0]? = some (.int .i64 7) := rfl
  simp only [cvO, cvV] at c2 c3
  have hz : rR [] = .nils := rfl
  rw [hz] at c6
  have hk := g.kinds.kRing
  have hi1 : ∀ t v, AV.isNilK 4 (.iface t v) = some false := fun _ _ => rfl
  have hi2 : AV.isNilK 4 .nili = some true := rfl
  refine pval_has h rfl ?_
  simp only [b84, f84]
  simp [-List.getD_eq_getElem?_getD, -Int.ofNat_toNat, -getElem?_pos, er84_0, er84_1, er84_2, er84_3, er84_4, er84_5, er84_6, er84_7, er84_8, er84_9, er84_10, va1, va2, va3, va4, va5, c8, c1, c2, c3, c4, c5, c6, c7, viewA_closed, closeds_cons, hc1, hc2, hc3, hc4, hc5, setAt, subNo, hi1, hi2, List.lookup, g.td.allb]
  refine pcall_has hk rfl ?_
  simp only [b98, f98]
  simp [-List.getD_eq_getElem?_getD, -Int.ofNat_toNat, -getElem?_pos, er98_0, er98_1, hc4, hc6, resK, resVs, resV, pack]
end Go.Ai.G
/- CertReads: which numbers are a certificate's. -/
namespace Go.Ai.G
open Go.Ai
set_option maxRecDepth 100000
set_option linter.unusedSimpArgs false
set_option linter.unusedVariables false
variable {A : AProg} {φ : Nat → Nat}
attribute [local simp ↓] getD_z getD_s hid_k hid_o hid_q hid_v PO_nil PO_none PO_grd PD_nil PD_none PD_grd PDO_N PDO_X PDO_call PDO_calli PDO_callv PSX_N PSX_X PSX_call PSX_calli PSX_callv PSX_inv
  PSX_callp PSX_panic PDO_inv PStep_inv thenC_pan blockC_pan loopC_pan endX_ret endX_norm endX_pan PStep_N PStep_X PStep_call PStep_calli PC_skip PC_lab PC_ret PC_exit PC_reg PC_draw
  PC_seq PC_block PC_loop PC_scope PC_cond thenC_norm thenC_ret thenC_exit blockC_norm blockC_ret blockC_exit loopC_norm loopC_ret loopC_exit endR_ret endR_norm
attribute [local simp] gz PDX_free PDX_eq KI_some n_mki n_tas0 n_tasf PStep_callv resK_none resK_t resK_tt KNO_val KNO_new KNO_ite KNO_map KXO_some KXO_ite KVA_t KVA_f KG_skip KG_tt KG_ff KG_tf KG_ft
  KB_true KB_false KNOD_val KNOD_new KNOD_ite n_mv n_pick n_bin n_eqB n_eqN n_eqS n_un n_conv n_fadd n_faddV n_fld1 n_fldN n_idx n_idxA n_idxV n_idxAV n_ext n_lenS n_lenS0 n_lenV
  n_lenT n_lenA n_min n_max n_build n_mkfn n_slc n_slc0 n_slcV n_slcA n_load1 n_loadN n_load1V n_loadNV n_alloc n_box n_bsl n_mksl n_nilcP n_nilcV n_nilcI n_nilcF x_store x_clear0
  x_clear b_add b_sub b_mul b_eql b_neq b_lss b_leq b_gtr b_geq b_and16 unV ntouch gather hide unhide evalOpd applyOuts int_bne int_beq ite_bool ite_int one_bool cells_bool one_int
  cells_int one_str cells_str one_nilp cells_nilp one_ptr cells_ptr one_nils cells_nils one_sl cells_sl one_nilf cells_nilf one_fn cells_fn one_nili cells_nili one_mp cells_mp
  one_nilm cells_nilm one_iface cells_iface one_vs cells_vs one_vp cells_vp cells_agg Nat.testBit setAt_1 setAt_2 closeds_nil closeds_cons closed_bool closed_int closed_str
  closed_nilp closed_nils closed_nilm closed_nilf closed_nili closed_agg closed_tup closed_vs closed_vp closed_iface closed_fn closeds_cI closeds_cE viewA_closed viewR_closed AV.scal
  AV.scal0 fillA repA part_bool part_int part_str part_nilp part_ptr part_nils part_sl part_nilm part_mp part_nilf part_fn part_nili part_iface part_agg part_vs part_vp viewA_sl1
  vaSl_cells wrap_0 wrap_1 wrap_2 wrap_m1 set_last get_last
theorem er100_0 (φ : Nat → Nat) : r100_0 φ = [
  ⟨0, .N .mv, [.c (.bool false)], none, 0⟩] := Eq.trans rfl rfl
theorem er100_1 (φ : Nat → Nat) : r100_1 φ = [
  ⟨0, .calli true (φ 84), [], none, 0⟩,
  ⟨1, .N .mv, [.l 0], none, 0⟩] := Eq.trans rfl rfl
theorem er100_2 (φ : Nat → Nat) : r100_2 φ = [
  ⟨0, .N (.bsl [.int .i64 0] 0 1 []), [], none, 0⟩,
  ⟨1, .N .mv, [.n 0], none, 0⟩,
  ⟨2, .N .mv, [.n 0], none, 0⟩,
  ⟨3, .N .lenS, [.l 0], none, 0⟩,
  ⟨4, .N .min, [.l 0, .c (.int .i64 200)], none, 0⟩,
  ⟨5, .N (.slc 1 false true false), [.l 3, .l 0], none, 0⟩,
  ⟨6, .X (.app 1 8), [.l 5, .l 0], none, 0⟩,
  ⟨7, .N .mv, [.l 0], none, 0⟩] := Eq.trans rfl rfl
theorem er100_3 (φ : Nat → Nat) : r100_3 φ = [
  ⟨0, .N .mv, [.n 0], none, 0⟩,
  ⟨1, .calli false (φ 85), [.l 0], none, 0⟩,
  ⟨2, .N .mv, [.l 0], none, 0⟩,
  ⟨3, .N (.ext 0), [.l 0], none, 0⟩,
  ⟨4, .N (.ext 1), [.l 1], none, 0⟩,
  ⟨5, .N .mv, [.l 1], none, 0⟩,
  ⟨6, .N .mv, [.l 1], none, 0⟩] := Eq.trans rfl rfl
theorem er100_4 (φ : Nat → Nat) : r100_4 φ = [
  ⟨0, .N .mv, [.n 0], none, 0⟩,
  ⟨1, .calli true (φ 86), [.l 0], none, 0⟩,
  ⟨2, .N (.un .not), [.l 0], none, 0⟩] := Eq.trans rfl rfl
theorem er100_5 (φ : Nat → Nat) : r100_5 φ = [
  ⟨0, .N .mv, [.n 2], none, 0⟩,
  ⟨1, .N .mv, [.l 0], none, 0⟩,
  ⟨2, .N .mv, [.n 4], some (.l 0, true), 0⟩,
  ⟨3, .N (.bin .eql), [.l 0, .c (.int .i64 3)], some (.l 1, true), 0⟩,
  ⟨4, .N .pick, [.l 2, .l 0, .c (.bool false)], none, 0⟩,
  ⟨5, .N .mv, [.l 0], none, 0⟩,
  ⟨6, .N .mv, [.n 3], some (.l 0, true), 0⟩,
  ⟨7, .N (.eqN 4 false), [.l 0, .c (.nili)], some (.l 1, true), 0⟩,
  ⟨8, .N .pick, [.l 2, .l 0, .c (.bool false)], none, 0⟩,
  ⟨9, .N .mv, [.l 0], none, 0⟩] := Eq.trans rfl rfl
theorem er100_6 (φ : Nat → Nat) : r100_6 φ = [
  ⟨0, .N .mv, [.n 4], none, 0⟩,
  ⟨1, .N (.bin .neq), [.l 0, .c (.int .i64 0)], none, 0⟩,
  ⟨2, .N .mv, [.l 0], none, 0⟩,
  ⟨3, .N .mv, [.n 3], some (.l 0, false), 0⟩,
  ⟨4, .N (.eqN 4 false), [.l 0, .c (.nili)], some (.l 1, false), 0⟩,
  ⟨5, .N .pick, [.l 2, .c (.bool true), .l 0], none, 0⟩] := Eq.trans rfl rfl
theorem er100_7 (φ : Nat → Nat) : r100_7 φ = [
  ⟨0, .N .mv, [.c (.bool false)], none, 0⟩] := Eq.trans rfl rfl
theorem er100_8 (φ : Nat → Nat) : r100_8 φ = [
  ⟨0, .N .mv, [.n 2], none, 0⟩,
  ⟨1, .N .mv, [.l 0], none, 1⟩,
  ⟨2, .N .mv, [.n 3], some (.l 0, true), 3⟩,
  ⟨4, .N .mv, [.n 0], some (.l 1, true), 3⟩,
  ⟨5, .N (.idx 1), [.l 0, .c (.int .i64 0)], some (.l 2, true), 11⟩,
  ⟨6, .N .load1, [.l 0], some (.l 3, true), 27⟩,
  ⟨3, .inv [(φ 87, φ 88), (φ 89, φ 90), (φ 91, φ 92), (φ 93, φ 94), (φ 95, φ 96), (φ 97, φ 98)], [.l 3], some (.l 4, true), 7⟩,
  ⟨7, .N (.bin .eql), [.l 0, .l 1], some (.l 5, true), 127⟩,
  ⟨8, .N .pick, [.l 6, .l 0, .c (.bool false)], none, 255⟩,
  ⟨9, .N .mv, [.l 0], none, 511⟩,
  ⟨10, .N .mv, [.n 3], some (.l 0, true), 1023⟩,
  ⟨12, .N .mv, [.n 0], some (.l 1, true), 1023⟩,
  ⟨11, .calli false (φ 99), [.l 1], some (.l 2, true), 2047⟩,
  ⟨13, .calli true (φ 11), [.l 0, .l 1], some (.l 3, true), 8191⟩,
  ⟨14, .N .pick, [.l 4, .l 0, .c (.bool false)], none, 16383⟩,
  ⟨15, .N .mv, [.l 0], none, 32767⟩] := Eq.trans rfl rfl
structure I22 (A : AProg) (φ : Nat → Nat) : Prop extends C22 A φ where
  is : Has A (φ 86) (f86 φ)
  rrow : Has A (φ 116) (f116 φ)
  rrows : Has A (φ 117) (f117 φ)
  rthings : Has A (φ 119) (f119 φ)
  rtrees : Has A (φ 118) (f118 φ)
theorem I22.cis (g : I22 A φ) {v : AV} {l : List Int} (hv : IsI v l) (hn : l.length < 1000000000) : PVal A (φ 86) [v] (.bool (isR l)) := w_Is g.is g.rrow g.rrows g.rthings g.rtrees hv hn
/-- A row, cut, as a row of one's own. -/
theorem cutI {P : Nat} {H : Heap} {v : AV} {l : List Int} (hv : IsI v l) (k : Nat) (hk : k ≤ 1000000) (b : Nat) (hP : P ≤ H.length) : ∃ v' o H', (∀ (i : IntKind) rd, nstep (.slc 1 false true false) [v, .int i ((min l.length k : Nat) : Int)] rd = some (.val v')) ∧
    xstep (.app 1 8) [.sl b 0 0 0 1 0 true, v'] H = some (o, H') ∧ OwnI false P H' o (l.take k) ∧ (∀ b, b < P → H'[b]? = H[b]?) ∧ H.length ≤ H'.length := by
  obtain ⟨v', s1, s2, _⟩ := (hv.rd (P := 0) (H := H)).take (n := min l.length k) (by omega)
  have e : l.take (min l.length k) = l.take k := by
    rcases Nat.le_total l.length k with h | h
    · rw [Nat.min_eq_left h, List.take_of_length_le h, List.take_of_length_le (Nat.le_refl _)]
    · rw [Nat.min_eq_right h]
  rw [e] at s2
  obtain ⟨o, H', x1, x2, x3, x4⟩ := ownI_appR (ownI_empty P H b 0 0) s2 hP (by simp; omega)
  exact ⟨v', o, H', s1, x1, by simpa using x2, x3, x4⟩
theorem readE_ok {l : List Int} {c : CV} (h : readR l = some c) : readE l = 0 := by simp [readE, h]
theorem readE_no {l : List Int} (h : readR l = none) : readE l = 3 := by simp [readE, h]
set_option maxHeartbeats 4000000 in
theorem w_CertReads (h : Has A (φ 100) (f100 φ)) (hS : PVal A (φ 84) [] (.bool true)) (g : I22 A φ) (v : AV) (l : List Int) (hv : IsI v l) :
    PVal A (φ 100) [v] (.bool true) := by
  have hsh := hS.eq
  have hlen := hv.len
  obtain ⟨v', o, H', s1, x1, x2, x3, x4⟩ := cutI (P := 0) (H := [Ob.cells 0 false []]) hv 200 (by omega) 0 (Nat.zero_le _)
  have hmin := minV_i (l.length : Int) 200
  have hmm : min (l.length : Int) 200 = ((min l.length 200 : Nat) : Int) := by omega
  rw [hmm] at hmin
  have hL : (l.take 200).length ≤ 200 := by simp; omega
  generalize l.take 200 = es at *
  have hw : Vw false H' o 1 es.length (cI es) := Own.vw x2
  have hc := closeds_cI es
  have va1 := hw.l1 hc
  obtain ⟨f1, f2, f3⟩ := hw.frz
  have vb1 := f1.l1 hc
  rw [f2] at vb1
  have q1 := Own.one x2
  have q2 := Own.cells x2
  simp only [rv_false] at va1 vb1
  generalize frzOf H' o = F at *
  have hIs := isI_v es
  have c1 := (g.cread hIs (by omega)).eq
  have c2 := (g.cis hIs (by omega)).eq
  refine pval_has h rfl ?_
  simp only [b100, f100]
  cases hr : readR es with
  | none =>
    have hR : isR es = false := by simp [isR, hr]
    rw [hr, readE_no hr] at c1
    rw [hR] at c2
    simp only [cvO] at c1
    have hi2 : AV.isNilK 4 .nili = some true := rfl
    simp [-List.getD_eq_getElem?_getD, -Int.ofNat_toNat, -getElem?_pos, er100_0, er100_1, er100_2, er100_3, er100_4, er100_5, er100_6, er100_7, er100_8, hsh, hlen, foldV, hmin, s1, x1, va1, vb1, c1, c2, hi2, resK, resVs, resV, pack]
  | some c =>
    have hR : isR es = true := by simp [isR, hr]
    rw [hr, readE_ok hr] at c1
    rw [hR] at c2
    simp only [cvO] at c1
    obtain ⟨rfl, hok⟩ := (readR_put _ _).1 hr
    have hcv := isCV_cvV (φ := φ) hok
    obtain ⟨k1, k2, k3⟩ := cvV_ne φ c
    have k4 := cvV_closed φ c
    have c3 := (g.cints hcv (by omega)).eq
    have c4 := (g.csame (isI_v (putC c)) (isI_v (putC c)) (by omega)).eq
    simp only [decide_true] at c4
    have hne : putC c ≠ [] := by cases c <;> simp [putC]
    have hpos : 0 < (putC c).length := List.length_pos_iff.2 hne
    obtain ⟨b, gg, cl, ex, ro, ho, hF⟩ : ∃ b gg cl ex ro, o = .sl b gg 0 (putC c).length 1 cl ex ∧ F[b]? = some (.cells gg ro (cI (putC c))) := by
      rcases f1 with ⟨h0, _⟩ | ⟨_, b, gg, cl, ex, ro, h1, _, h2⟩
      · omega
      · exact ⟨b, gg, cl, ex, ro, h1, h2⟩
    have hbl := lt_of_get hF
    have hhd : (cI (putC c))[0]? = some (.int .i64 (kindC c)) := by
      have := putC_head c
      rw [List.head?_eq_getElem?] at this
      simp [cI, this]
    have hp0 : (0 : Int) < ((putC c).length : Int) := by omega
    generalize cvV φ c = V at *
    have hi2 : AV.isNilK 4 .nili = some true := rfl
    simp [-List.getD_eq_getElem?_getD, -Int.ofNat_toNat, -getElem?_pos, er100_0, er100_1, er100_2, er100_3, er100_4, er100_5, er100_6, er100_7, er100_8, hsh, hlen, foldV, hmin, s1, x1, va1, vb1, c1, c2, c3, k1, k2, k3, k4, hi2, resK, resVs, resV, pack]
    subst ho
    simp [-List.getD_eq_getElem?_getD, -Int.ofNat_toNat, -getElem?_pos, er100_0, er100_1, er100_2, er100_3, er100_4, er100_5, er100_6, er100_7, er100_8, hF, hp0, hne, hhd, k1, k2, k3, k4, c3, PDX_eq]
    refine ⟨hpos, w_inv g.td g.kinds hcv (fun H2 e1 e2 => ?_)⟩
    simp only [hid_k]
    refine ⟨fun b' hb' => by simp at hb'; subst hb'; exact e1 _ hbl, ?_⟩
    have hF2 : H2[b]? = some (.cells gg ro (cI (putC c))) := (e1 _ hbl).trans hF
    have hw2 : Vw false H2 (.sl b gg 0 (putC c).length 1 cl ex) 1 (putC c).length (cI (putC c)) := .inr ⟨hpos, b, gg, cl, ex, ro, rfl, by rw [cI_len]; omega, hF2⟩
    have vc := hw2.r2 hc (vI (putC c)) (isI_v _).closed
    simp only [rv_false] at vc
    simp [-List.getD_eq_getElem?_getD, -Int.ofNat_toNat, -getElem?_pos, er100_0, er100_1, er100_2, er100_3, er100_4, er100_5, er100_6, er100_7, er100_8, k1, k2, k4, c3, c4, vc, PDX_eq, viewA_closed, closeds_cons, resK, resVs, resV, pack]
end Go.Ai.G
