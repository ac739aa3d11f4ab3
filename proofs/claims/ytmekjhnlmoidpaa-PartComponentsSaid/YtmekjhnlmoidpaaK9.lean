/- A part of what the law leans on: the abstract machine, the contracts, the rows. -/
import Derived.Test.YtmekjhnlmoidpaaK5
import Derived.Test.YtmekjhnlmoidpaaK1
import Derived.Shelf.SlSortCmp.NoneTotal
import Derived.Test.YtmekjhnlmoidpaaK7
import Derived.Test.YtmekjhnlmoidpaaK6
/- slices.SortFunc at edges, in the abstract machine: the shelf's contract carried over. -/
namespace Go.Ai
set_option linter.unusedSectionVars false
variable [DrMode]
set_option linter.unusedVariables false
set_option linter.unusedSimpArgs false
open Go.Sort Go.Proofs

theorem ltE (x y : Ed) : Go.Proofs.ltOf cmpE x y = !edgeLe y x := by
  unfold Go.Proofs.ltOf cmpE edgeLe cmpI
  by_cases h1 : x.1 < y.1
  · simp [h1]
    try omega
  · by_cases h2 : x.1 > y.1
    · simp [h1, h2]; try omega
    · by_cases h3 : x.2 < y.2
      · simp [h1, h2, h3]
        try omega
      · by_cases h4 : x.2 > y.2
        · simp [h1, h2, h3, h4]; try omega
        · simp [h1, h2, h3, h4]
          try omega
/-- A world that has grown, and drawn. -/
def Grown (w w' : World) : Prop := ∃ q os', w' = grow (w.drewN q) os'
theorem grown_of {w w' : World} (h1 : w.heap.size ≤ w'.heap.size) (h2 : ∀ k, k < w.heap.size → w'.heap[k]? = w.heap[k]?) (h3 : w'.os = w.os) (h4 : w'.tape = w.tape) (h5 : w'.output = w.output) (h6 : w.drawn ≤ w'.drawn) : Grown w w' := by
  refine ⟨w'.drawn - w.drawn, w'.heap.extract w.heap.size w'.heap.size, ?_⟩
  obtain ⟨hp, tp, dr, os, out⟩ := w
  obtain ⟨hp', tp', dr', os', out'⟩ := w'
  simp only at h1 h2 h3 h4 h5 h6
  subst h3; subst h4; subst h5
  simp only [grow, World.drewN, World.mk.injEq, true_and, and_true]
  refine ⟨?_, by omega⟩
  apply Array.ext_getElem?
  intro i
  rw [Array.getElem?_append]
  by_cases hi : i < hp.size
  · rw [if_pos hi]; exact h2 i hi
  · rw [if_neg hi, Array.getElem?_extract]
    simp only [Nat.min_self]
    by_cases hi2 : i < hp'.size
    · rw [if_pos (by omega)]
      congr 1; omega
    · rw [if_neg (by omega), Array.getElem?_eq_none (by omega)]
theorem swoE : SWO (Go.Proofs.ltOf cmpE) where
  irrefl x := by rw [ltE]; simp [edgeLe]
  trans x y z h1 h2 := by rw [ltE] at *; simp [edgeLe] at *; omega
  ntrans x y z h1 h2 := by rw [ltE] at *; simp [edgeLe] at *; omega

theorem cellsE_get : ∀ (es : List Ed) (i : Nat) (h : i < es.length), (cellsE es)[i * 2]? = some (.int .i64 es[i].1) ∧ (cellsE es)[i * 2 + 1]? = some (.int .i64 es[i].2)
  | x :: l, 0, _ => by simp [cellsE]
  | x :: l, i + 1, h => by
    have := cellsE_get l i (by simpa using h)
    simp only [cellsE, List.getElem_cons_succ]
    rw [show (i + 1) * 2 = i * 2 + 1 + 1 by omega, show i * 2 + 1 + 1 + 1 = (i * 2 + 1) + 1 + 1 by omega]
    simp only [List.getElem?_cons_succ]
    exact this
theorem cellsE_flat (es : List Ed) (j : Nat) (h : j < es.length * 2) : ∃ k, (cellsE es)[j]? = some (.int .i64 k) ∧ (flatK encE 2 es.toArray)[j]! = .int .i64 k := by
  have hj2 : j / 2 < es.length := by omega
  have e : (es.toArray)[j / 2]! = es[j / 2] := by simp [hj2]
  obtain ⟨c0, c1⟩ := cellsE_get es (j / 2) hj2
  rw [get_flatK _ _ _ _ (by simpa using h), e]
  rcases Nat.mod_two_eq_zero_or_one j with h2 | h2
  · rw [h2]
    rw [show j / 2 * 2 = j by omega] at c0
    exact ⟨_, c0, rfl⟩
  · rw [h2]
    rw [show j / 2 * 2 + 1 = j by omega] at c1
    exact ⟨_, c1, rfl⟩
theorem sortWorld_cell {w : World} {blk off m : Nat} {d : Array Ed} {os : Array Obj} (hb : blk < w.heap.size) (i : Nat) :
    (sortWorldK encE 2 w blk off m d os).cell? ⟨blk, i, none⟩ = (w.cell? ⟨blk, i, none⟩).map (fun x => if off ≤ i ∧ i < off + d.size * 2 then (flatK encE 2 d)[i - off]! else x) ∧
    (sortWorldK encE 2 w blk off m d os).frozen? ⟨blk, i, none⟩ = w.frozen? ⟨blk, i, none⟩ := by
  unfold sortWorldK
  rw [cell?_grow _ _ _ (by rw [size_putRowK]; exact hb), frozen?_grow _ _ _ (by rw [size_putRowK]; exact hb)]
  unfold putRowK putRow mapBlock World.cell? World.frozen?
  simp only [Array.getElem?_modify, if_true, Go.Sort.ahead]
  cases hh : w.heap[blk]? with
  | none => simp
  | some o =>
    cases o with
    | cells c e fr =>
      refine ⟨?_, rfl⟩
      simp only [Option.map_some, onCells, Option.isSome_none, Bool.false_eq_true, if_false, putCells, Array.getElem?_mapIdx, size_flatK]
      cases c[i]? with
      | none => rfl
      | some x => simp only [Option.map_some, id]
    | _ => exact ⟨rfl, rfl⟩
theorem sortWorld_other {w : World} {blk off m : Nat} {d : Array Ed} {os : Array Obj} (k : Nat) (hk : k ≠ blk) (hl : k < w.heap.size) : (sortWorldK encE 2 w blk off m d os).heap[k]? = w.heap[k]? := by
  unfold sortWorldK
  rw [heap_grow_old _ _ (by rw [size_putRowK]; exact hl)]
  unfold putRowK putRow mapBlock
  simp only [Array.getElem?_modify]
  rw [if_neg (fun h => hk h.symm)]
  rfl

def sortExt (fc : Nat) (args : List AV) (H : Heap) : Option (Out AV) :=
  match args with
  | [.nils, .fn (.func f) [] []] => if f = fc then some (.ok (.tup []) H) else none
  | [.sl b g o n sz cl ex, .fn (.func f) [] []] => if f = fc ∧ sz = 2 ∧ 0 < n ∧ n < 1000000000000 then (match H[b]? with
    | some (.cells g' false c) => if g' = g ∧ o + n * 2 ≤ c.length then (match decE n ((c.drop o).take (n * 2)) with
        | some es => some (.ok (.tup []) (H.set b (.cells g false (setAt c o (cellsE (isortE es))))))
        | none => none) else none
    | _ => none) else none
  | _ => none
def Orders (P : Program) (fc : Nat) : Prop := ∀ (x y : Ed) (W : World), Calls P fc #[.agg (encE x).toArray, .agg (encE y).toArray] W fun e w' => e = .returned (.int .i64 (cmpE x y)) ∧ Grown W w'
theorem sort_ext {P : Program} {ρ : Go.Shelf.Ren} (L : SlLaysF0.n6 P ρ) (aE : ∀ w, (isAgg (ρ.t 24)).run P w = .ok true w) (zE : ∀ w, (Go.sizeOf (ρ.t 24)).run P w = .ok 2 w) {fc : Nat} (hc : Orders P fc) (ec : Enters P fc) (es6 : Enters P (ρ.f 6)) :
    ∀ args H out, sortExt fc args H = some out → Enters P (ρ.f 6) ∧ H.length ≤ out.heap.length ∧ ∀ B μ w us, HR B μ H w → VRs μ args us → Calls P (ρ.f 6) us.toArray w (OutR B μ H w out) := by
  intro args H out h
  refine ⟨es6, ?_⟩
  unfold sortExt at h
  split at h
  · split at h
    · rename_i f hf
      subst hf
      cases h
      refine ⟨Nat.le_refl _, fun B μ w us hH hv => ?_⟩
      obtain ⟨u1, t1, rfl, h1, hv⟩ := hv.cases_cons
      obtain ⟨u2, t2, rfl, h2, hv⟩ := hv.cases_cons
      have := hv.cases_nil; subst this
      cases h1
      refine (AnyF.slices_SortFunc_none L none 0 u2 w).mono ?_
      rintro e w' ⟨rfl, rfl⟩
      exact ⟨_, μ, rfl, VR.skipped μ, hH, Ext.refl _ _ _⟩
    · cases h
  · split at h
    · rename_i b g o n sz cl ex f hcnd
      obtain ⟨rfl, rfl, hn, hlt⟩ := hcnd
      split at h
      · rename_i g' c hb
        split at h
        · rename_i hg
          obtain ⟨rfl, hlen⟩ := hg
          split at h
          · rename_i es hes
            cases h
            refine ⟨by simp [Out.heap], fun B μ w us hH hv => ?_⟩
            obtain ⟨u1, t1, rfl, h1, hv⟩ := hv.cases_cons
            obtain ⟨u2, t2, rfl, h2, hv⟩ := hv.cases_cons
            have := hv.cases_nil; subst this
            obtain ⟨hel, hec⟩ := decE_spec _ _ _ hes
            obtain ⟨a, ha, hob⟩ := hH.ob b _ hb (by simp)
            simp only [Ob.gen] at ha
            cases h1 with
            | @sl _ _ _ _ _ _ cc _ p hn1 hc1 he1 hp =>
              obtain ⟨a2, ha2, rfl, _⟩ := hp (by omega)
              rw [ha] at ha2; cases ha2
              cases h2 with
              | @fn _ _ _ f1 c1 k1 k2 k3 k4 =>
                have : f1 = [] := List.length_eq_zero_iff.1 k1.symm
                subst this
                have : c1 = [] := List.length_eq_zero_iff.1 k3.symm
                subst this
                obtain ⟨hbl, hce, hcells, _, hrw⟩ := hob
                obtain ⟨hB, hrw⟩ := hrw rfl
                have hco : ∀ j, j < n * 2 → c[o + j]? = (cellsE es)[j]? := by
                  intro j hj
                  rw [← hec, List.getElem?_take, if_pos hj, List.getElem?_drop]
                have hH0 : HoldsK encE 2 w a.blk (a.off + o) es.toArray := by
                  intro j hj
                  rw [size_flatK] at hj
                  simp only [List.size_toArray] at hj
                  obtain ⟨k, e1, e2⟩ := cellsE_flat es j hj
                  rw [← hco j (by omega)] at e1
                  obtain ⟨u, hu, hvu⟩ := hcells _ _ e1
                  cases hvu
                  refine ⟨?_, ?_⟩
                  · rw [Nat.add_assoc, hu, e2]; rfl
                  · rw [Nat.add_assoc]
                    exact (hrw (o + j) (by omega)).2
                have hcon := AnyQ.slices_SortFunc_total L 2 aE zE encE (fun _ => rfl) (fun x v hv => by simp [encE] at hv; rcases hv with rfl | rfl <;> rfl) cmpE swoE f #[] a.blk (a.off + o) cc es.toArray w (fun args w => ec args w)
                  (fun m os dk hs x y => by rw [Array.append_empty]; exact hc x y _) hH0 hbl (by simp; omega) (fun x y h1 h2 => by rw [ltE] at h1 h2; simp at h1 h2; exact edgeLe_anti _ _ h2 h1)
                have hsz : es.toArray.size = n := by simp [hel]
                rw [hsz] at hcon
                refine hcon.mono ?_
                rintro e w' ⟨rfl, m, os, rfl⟩
                have es' : (es.toArray.toList.mergeSort fun x y => !(ltOf cmpE) y x) = isortE es := by
                  rw [← merge_isort]
                  congr 1
                  funext x y
                  rw [ltE, Bool.not_not]
                rw [es']
                have hil : (isortE es).length = n := by rw [(isortE_perm es).length_eq, hel]
                have hcl : (cellsE (isortE es)).length = n * 2 := by rw [cellsE_length, hil]
                refine ⟨.tuple #[], μ, rfl, VR.skipped μ, ?_⟩
                refine hH.repl (a1 := a) hb ha (Mu.le_refl μ) ha (fun _ _ _ => rfl) (fun g' x hx => hH.gen b _ g' x hb (by simp) hx) (.inl rfl) (fun k hk hne => sortWorld_other k hne hk) (size_sortWorldK_c encE 2 w a.blk _ m _ os) rfl rfl rfl (by show w.drawn ≤ w.drawn + m; omega) ?_ rfl
                have hsl : (setAt c o (cellsE (isortE es))).length = c.length := by simp [setAt, hcl]; omega
                refine ⟨Nat.lt_of_lt_of_le hbl (size_sortWorldK_c encE 2 w a.blk _ m _ os), by rw [hsl]; exact hce, ?_, fun h => (by cases h), fun _ => ⟨hB, fun i hi => ?_⟩⟩
                · intro i v hv
                  rw [(sortWorld_cell hbl _).1]
                  simp only [List.size_toArray, hil]
                  by_cases hin : o ≤ i ∧ i < o + n * 2
                  · obtain ⟨k, e1, e2⟩ := cellsE_flat (isortE es) (i - o) (by omega)
                    have : (setAt c o (cellsE (isortE es)))[i]? = (cellsE (isortE es))[i - o]? := by
                      simp only [setAt]
                      rw [List.append_assoc, List.getElem?_append_right (by simp; omega), List.getElem?_append_left (by simp [hcl]; omega)]
                      congr 1; simp; omega
                    rw [this, e1] at hv
                    cases hv
                    obtain ⟨⟨u, hu⟩, _⟩ := hrw i (by omega)
                    rw [hu]
                    refine ⟨_, rfl, ?_⟩
                    simp only
                    rw [if_pos (by omega), show a.off + i - (a.off + o) = i - o by omega, e2]
                    exact .int _ _
                  · have : (setAt c o (cellsE (isortE es)))[i]? = c[i]? := by
                      simp only [setAt]
                      rw [List.append_assoc]
                      by_cases hi : i < o
                      · rw [List.getElem?_append_left (by simp; omega), List.getElem?_take, if_pos hi]
                      · rw [List.getElem?_append_right (by simp; omega), List.getElem?_append_right (by simp [hcl]; omega), List.getElem?_drop]
                        congr 1; simp [hcl]; omega
                    rw [this] at hv
                    obtain ⟨u, hu, hvu⟩ := hcells i v hv
                    rw [hu]
                    refine ⟨_, rfl, ?_⟩
                    simp only
                    rw [if_neg (by omega)]
                    exact hvu
                · rw [(sortWorld_cell hbl _).1, (sortWorld_cell hbl _).2]
                  obtain ⟨⟨u, hu⟩, hf⟩ := hrw i hi
                  rw [hu]
                  exact ⟨⟨_, rfl⟩, hf⟩
          · cases h
        · cases h
      · cases h
    · cases h
  · cases h
end Go.Ai
namespace Go.Ai.G
open Go.Ai
set_option maxRecDepth 100000
set_option linter.unusedSimpArgs false
set_option linter.unusedVariables false
variable {A : AProg} {φ : Nat → Nat}
attribute [local simp ↓] getD_z getD_s hid_k hid_o hid_q hid_v PO_nil PO_none PO_grd PD_nil PD_none PD_grd PDO_N PDO_X PDO_call PDO_calli PDO_callv PStep_N PStep_X PStep_call PStep_calli PC_skip PC_lab
  PC_ret PC_exit PC_reg PC_draw PC_seq PC_block PC_loop PC_scope PC_cond thenC_norm thenC_ret thenC_exit blockC_norm blockC_ret blockC_exit loopC_norm loopC_ret loopC_exit endR_ret
  endR_norm
attribute [local simp] gz PDX_free PDX_eq PStep_callv resK_none resK_t resK_tt KNO_val KNO_new KNO_ite KNO_map KXO_some KXO_ite KVA_t KVA_f KG_skip KG_tt KG_ff KG_tf KG_ft KB_true KB_false KNOD_val
  KNOD_new KNOD_ite n_mv n_pick n_bin n_eqB n_eqN n_eqS n_un n_conv n_fadd n_faddV n_fld1 n_fldN n_idx n_idxA n_idxV n_idxAV n_ext n_lenS n_lenS0 n_lenV n_lenT n_lenA n_min n_max
  n_build n_mkfn n_slc n_slc0 n_slcV n_slcA n_load1 n_loadN n_load1V n_loadNV n_alloc n_box n_bsl n_mksl n_nilcP n_nilcV n_nilcI n_nilcF x_store x_clear0 x_clear b_add b_sub b_mul
  b_eql b_neq b_lss b_leq b_gtr b_geq b_and16 unV ntouch gather hide unhide evalOpd applyOuts int_bne int_beq ite_bool ite_int one_bool cells_bool one_int cells_int one_str cells_str
  one_nilp cells_nilp one_ptr cells_ptr one_nils cells_nils one_sl cells_sl one_nilf cells_nilf one_fn cells_fn one_nili cells_nili one_mp cells_mp one_nilm cells_nilm one_iface
  cells_iface one_vs cells_vs one_vp cells_vp cells_agg Nat.testBit setAt_1 setAt_2 closeds_nil closeds_cons closed_bool closed_int closed_str closed_nilp closed_nils closed_nilm
  closed_nilf closed_nili closed_agg closed_tup closed_vs closed_vp closed_iface closed_fn closeds_cI closeds_cE viewA_closed viewR_closed AV.scal AV.scal0 fillA repA part_bool
  part_int part_str part_nilp part_ptr part_nils part_sl part_nilm part_mp part_nilf part_fn part_nili part_iface part_agg part_vs part_vp viewA_sl1 vaSl_cells wrap_0 wrap_1 wrap_2
  wrap_m1 set_last get_last
def RdE (c : List AV) (o : Nat) (es : List Ed) : Prop := ∀ i (h : i < es.length), c[o + i * 2]? = some (.int .i64 es[i].1) ∧ c[o + i * 2 + 1]? = some (.int .i64 es[i].2)
/-- A slice that reads as these edges. -/
def RdV (nl : Bool) (H : Heap) (v : AV) (es : List Ed) : Prop := (v = .nils ∧ es = [] ∧ nl = true) ∨ ((nl = true → 0 < es.length) ∧ ∃ b g o cl ex ro c, v = .sl b g o es.length 2 cl ex ∧ H[b]? = some (.cells g ro c) ∧ RdE c o es)
theorem RdE_cells (es : List Ed) : RdE (cellsE es) 0 es := fun i h => by have := cellsE_get es i h; simpa using this
theorem RdE_take {c : List AV} {o : Nat} {es : List Ed} (h : RdE c o es) (h0 : 0 < es.length) : o + es.length * 2 ≤ c.length ∧ (c.drop o).take (es.length * 2) = cellsE es := by
  have hle : o + es.length * 2 ≤ c.length := by
    obtain ⟨_, h2⟩ := h (es.length - 1) (by omega)
    have := (List.getElem?_eq_some_iff.1 h2).1
    omega
  refine ⟨hle, List.ext_getElem? fun j => ?_⟩
  rw [List.getElem?_take]
  by_cases hj : j < es.length * 2
  · rw [if_pos hj, List.getElem?_drop]
    obtain ⟨k1, k2⟩ := h (j / 2) (by omega)
    obtain ⟨m1, m2⟩ := cellsE_get es (j / 2) (by omega)
    rcases Nat.mod_two_eq_zero_or_one j with h2 | h2
    · rw [show o + j / 2 * 2 = o + j by omega] at k1
      rw [show j / 2 * 2 = j by omega] at m1
      rw [k1, m1]
    · rw [show o + j / 2 * 2 + 1 = o + j by omega] at k2
      rw [show j / 2 * 2 + 1 = j by omega] at m2
      rw [k2, m2]
  · rw [if_neg hj, List.getElem?_eq_none (by rw [cellsE_length]; omega)]
theorem RdV.len {nl : Bool} {H : Heap} {v : AV} {es : List Ed} (h : RdV nl H v es) (rd : Nat → Option Ob) : nstep .lenS [v] rd = some (.val (.int .i64 es.length)) := by
  rcases h with ⟨rfl, rfl, _⟩ | ⟨_, b, g, o, cl, ex, ro, c, rfl, _, _⟩ <;> rfl
theorem RdV.one {nl : Bool} {H : Heap} {v : AV} {es : List Ed} (h : RdV nl H v es) : v.one = true := by
  rcases h with ⟨rfl, rfl, _⟩ | ⟨_, b, g, o, cl, ex, ro, c, rfl, _, _⟩ <;> rfl
theorem RdV.cells {nl : Bool} {H : Heap} {v : AV} {es : List Ed} (h : RdV nl H v es) : v.cells = [v] := by
  rcases h with ⟨rfl, rfl, _⟩ | ⟨_, b, g, o, cl, ex, ro, c, rfl, _, _⟩ <;> rfl
theorem RdV.part {nl : Bool} {H : Heap} {v : AV} {es : List Ed} (h : RdV nl H v es) : v.part = true := by
  rcases h with ⟨rfl, rfl, _⟩ | ⟨_, b, g, o, cl, ex, ro, c, rfl, _, _⟩ <;> rfl
theorem OwnE.rd {nl : Bool} {P : Nat} {H : Heap} {v : AV} {es : List Ed} (h : OwnE nl P H v es) (hb : nl = false → 0 < es.length) : RdV nl H v es := by
  rcases h with ⟨h0, _, h⟩ | ⟨h0, b, g, ex, rfl, h1, h2, h3⟩
  · cases nl
    · have := hb rfl; omega
    · exact .inl ⟨h, List.length_eq_zero_iff.1 h0, rfl⟩
  · exact .inr ⟨fun _ => h0, b, g, 0, _, ex, false, _, rfl, h3, RdE_cells es⟩
/-- As a value, within what a function answers. -/
theorem RdV.reach {nl : Bool} {H : Heap} {v : AV} {es : List Ed} (h : RdV nl H v es) (k : Nat) : reachV H (k + 1) v = [] ∨ ∃ b, blkOf v = some b ∧ reachV H (k + 1) v = [b] := by
  rcases h with ⟨rfl, rfl, _⟩ | ⟨_, b, g, o, cl, ex, ro, c, rfl, hb, hr⟩
  · exact .inl (reachV_closed _ rfl)
  · by_cases h0 : es.length = 0
    · left; rw [h0, reachV_sl0]
    · right
      refine ⟨b, by simp [blkOf, h0], ?_⟩
      obtain ⟨_, h2⟩ := RdE_take hr (by omega)
      simp only [reachV, AV.closed, Bool.false_eq_true, if_false, reachOne, if_neg h0, hb, h2]
      rw [reachL_closed _ (closeds_cE es)]
theorem RdV.seen {nl : Bool} {H H' : Heap} {v : AV} {es : List Ed} (h : RdV nl H v es) (k : Nat) (hH : ∀ b, blkOf v = some b → ∀ g ro c, H[b]? = some (.cells g ro c) → H'[b]? = some (.cells g true c)) : viewV H' (k + 2) v = some (rv nl es.length 2 (cellsE es)) := by
  rcases h with ⟨rfl, rfl, rfl⟩ | ⟨hn, b, g, o, cl, ex, ro, c, rfl, hb, hr⟩
  · rw [viewV_closed _ rfl]; simp [rv]
  · by_cases h0 : es.length = 0
    · cases nl
      · rw [h0, viewV_sl0]
        have : es = [] := List.length_eq_zero_iff.1 h0
        subst this
        simp [rv, cellsE]
      · have := hn rfl; omega
    · obtain ⟨h1, h2⟩ := RdE_take hr (by omega)
      have hb' := hH b (by simp [blkOf, h0]) g ro c hb
      conv => lhs; simp only [viewV]
      simp only [AV.closed, Bool.false_eq_true, if_false, viewOne, if_neg h0, hb']
      rw [if_pos ⟨trivial, h1⟩, h2, viewL_closed _ (closeds_cE es)]
      simp [rv, h0]
/-- A graph and an error. -/
theorem RdV.viewG {nl : Bool} {H : Heap} {v : AV} {es : List Ed} (h : RdV nl H v es) (n e : Int) : viewR H (.tup [.agg [.int .i64 n, v], .int .i64 e]) = some (.tup [.agg [.int .i64 n, rv nl es.length 2 (cellsE es)], .int .i64 e]) := by
  have hr : reachV H 12 (.tup [.agg [.int .i64 n, v], .int .i64 e]) = reachV H 8 v := by
    rw [show (12 : Nat) = 11 + 1 from rfl, reachV_tup, show (11 : Nat) = 10 + 1 from rfl, reachL_cons, reachL_closed _ rfl, List.append_nil, show (10 : Nat) = 9 + 1 from rfl, reachV_agg, show (9 : Nat) = 8 + 1 from rfl, reachL_cons, reachL_cons, reachL_nil, List.append_nil]
    rw [show (8 : Nat) = 7 + 1 from rfl, reachV_closed _ rfl, List.nil_append]
  have fin : ∀ H' : Heap, viewV H' 8 v = some (rv nl es.length 2 (cellsE es)) → viewV H' 12 (.tup [.agg [.int .i64 n, v], .int .i64 e]) = some (.tup [.agg [.int .i64 n, rv nl es.length 2 (cellsE es)], .int .i64 e]) := by
    intro H' h
    rw [show (12 : Nat) = 10 + 2 from rfl, viewV_tup, show (10 + 1 : Nat) = 9 + 2 from rfl, viewL_cons, show (9 + 1 : Nat) = 8 + 2 from rfl, viewV_agg, show (8 + 1 : Nat) = 7 + 2 from rfl, viewL_cons, viewL_cons, viewL_nil, show (7 + 1 : Nat) = 8 from rfl, h, viewV_closed (k := 7) rfl, viewL_closed (k := _) rfl]
    rfl
  rw [viewR_def]
  rw [show fuelV = 12 from rfl, hr]
  have hs := fun H' => h.seen (H' := H') (k := 6)
  rcases h.reach 7 with e0 | ⟨b, hb, e0⟩
  · rw [e0, frzH_nil]
    refine fin _ (hs _ fun b hb g ro c hc => ?_)
    rcases h with ⟨rfl, _⟩ | ⟨hn, b', g', o, cl, ex, ro', c', rfl, hb', hr'⟩
    · simp [blkOf] at hb
    · by_cases h0 : es.length = 0
      · simp [blkOf, h0] at hb
      · obtain ⟨_, h2⟩ := RdE_take hr' (by omega)
        simp only [reachV, AV.closed, Bool.false_eq_true, if_false, reachOne, if_neg h0] at e0
        cases e0
  · rw [e0]
    refine fin _ (hs _ fun b' hb' g ro c hc => ?_)
    rw [hb] at hb'; cases hb'
    cases ro
    · rw [frzH_cons _ _ _ _ hc, frzH_nil]; exact List.getElem?_set_self (lt_of_get hc)
    · rw [frzH_ro _ _ _ _ hc, frzH_nil]; exact hc
/-- Alike edges that stand side by side are one. -/
def compactE : List Ed → List Ed
  | [] => []
  | [x] => [x]
  | x :: y :: l => if x = y then compactE (y :: l) else x :: compactE (y :: l)
theorem compactE_pos : ∀ {es : List Ed}, 0 < es.length → 0 < (compactE es).length
  | [x], _ => by simp [compactE]
  | x :: y :: l, _ => by
    simp only [compactE]
    split
    · exact compactE_pos (by simp)
    · simp
theorem compactE_snoc : ∀ (l : List Ed) (x y : Ed), compactE (l ++ [x] ++ [y]) = compactE (l ++ [x]) ++ (if x = y then [] else [y])
  | [], x, y => by
    by_cases h : x = y <;> simp [compactE, h]
  | [z], x, y => by
    have := compactE_snoc [] x y
    simp only [List.nil_append, List.cons_append, compactE] at this ⊢
    by_cases h1 : z = x <;> by_cases h2 : x = y <;> simp_all
  | z :: t :: l, x, y => by
    have := compactE_snoc (t :: l) x y
    simp only [List.cons_append, compactE] at this ⊢
    by_cases h1 : z = t <;> simp only [h1, if_true, if_false, this, List.cons_append]
theorem compactE_take {es : List Ed} {p : Nat} (h : p + 1 < es.length) : compactE (es.take (p + 2)) = compactE (es.take (p + 1)) ++ (if es[p] = es[p + 1] then [] else [es[p + 1]]) := by
  rw [List.take_succ_eq_append_getElem h, List.take_succ_eq_append_getElem (by omega : p < es.length)]
  exact compactE_snoc _ _ _
theorem compactE_take' {es : List Ed} {p q : Nat} (hq : p = q + 1) (h : p < es.length) : compactE (es.take (p + 1)) = compactE (es.take p) ++ (if es[p] = es[q] then [] else [es[p]]) := by
  subst hq
  rw [compactE_take h]
  by_cases e : es[q] = es[q + 1]
  · rw [if_pos e, if_pos e.symm]
  · rw [if_neg e, if_neg (fun h => e h.symm)]
theorem compactE_none : ∀ (p : Nat) (es : List Ed), p < es.length → (∀ j (h : j + 1 < es.length), j + 1 ≤ p → ¬ es[j] = es[j + 1]) → compactE (es.take (p + 1)) = es.take (p + 1)
  | 0, x :: es, _, _ => by simp [compactE]
  | p + 1, es, h, hd => by
    rw [compactE_take h, compactE_none p es (by omega) (fun j hj hp => hd j hj (by omega)), if_neg (hd p h (by omega))]
    exact (List.take_succ_eq_append_getElem h).symm
theorem compactE_le : ∀ (es : List Ed), (compactE es).length ≤ es.length
  | [] => by simp [compactE]
  | [x] => by simp [compactE]
  | x :: y :: l => by
    have := compactE_le (y :: l)
    simp only [compactE]
    split <;> simp at * <;> omega
theorem RdE.take {c : List AV} {o : Nat} {es : List Ed} (h : RdE c o es) (k : Nat) : RdE c o (es.take k) := by
  intro i hi
  simp at hi
  obtain ⟨h1, h2⟩ := h i (by omega)
  simp only [List.getElem_take]
  exact ⟨h1, h2⟩
def okEnds (n : Int) (x : Ed) : Bool := decide (0 ≤ min x.1 x.2) && decide (max x.1 x.2 < n)
def normsE (l : List Ed) : List Ed := (l.filter fun x => decide (x.1 ≠ x.2)).map fun x => (min x.1 x.2, max x.1 x.2)
/-- What graph.Normal answers: the graph's vertices, its edges, and the error. -/
def normalE (n : Int) (l : List Ed) : Int × List Ed × Int :=
  if n < 0 then (0, [], 1) else if n > 1000 then (0, [], 5) else if l.all (okEnds n) then
    (if (compactE (isortE (normsE l))).length > 4000 then (0, [], 5) else (n, compactE (isortE (normsE l)), 0))
  else (0, [], 4)
/-! ### What graph.Normal makes of edges hangs on their set alone -/
def ltE (x y : Ed) : Prop := x.1 < y.1 ∨ x.1 = y.1 ∧ x.2 < y.2
theorem ltE_irrefl (x : Ed) : ¬ ltE x x := by unfold ltE; omega
theorem ltE_trans {x y z : Ed} (h : ltE x y) (k : ltE y z) : ltE x z := by unfold ltE at *; omega
theorem le_ne {x y : Ed} (h : edgeLe x y = true) (hn : ¬ x = y) : ltE x y := by
  obtain ⟨a, b⟩ := x
  obtain ⟨c, d⟩ := y
  simp [edgeLe, ltE] at *
  omega
theorem compactE_mem : ∀ (l : List Ed) (x : Ed), x ∈ compactE l ↔ x ∈ l
  | [], x => by simp [compactE]
  | [y], x => by simp [compactE]
  | y :: z :: l, x => by
    have ih := compactE_mem (z :: l) x
    simp only [compactE]
    split
    · rename_i h; subst h; rw [ih]; simp
    · rw [List.mem_cons, ih]; simp only [List.mem_cons]
theorem compactE_strict : ∀ (l : List Ed), l.Pairwise (fun a b => edgeLe a b = true) → (compactE l).Pairwise ltE
  | [], _ => by simp [compactE]
  | [y], _ => by simp [compactE]
  | y :: z :: l, h => by
    have hz := List.Pairwise.of_cons h
    have ih := compactE_strict (z :: l) hz
    simp only [compactE]
    split
    · exact ih
    · rename_i hyz
      refine List.Pairwise.cons (fun w hw => ?_) ih
      rw [compactE_mem] at hw
      have h1 : ltE y z := le_ne (List.rel_of_pairwise_cons h (List.mem_cons_self ..)) hyz
      rcases List.mem_cons.1 hw with rfl | hw
      · exact h1
      · have h2 := List.rel_of_pairwise_cons hz hw
        obtain ⟨a, b⟩ := y
        obtain ⟨c, d⟩ := z
        obtain ⟨p, q⟩ := w
        simp [edgeLe, ltE] at *
        omega
theorem strict_eq : ∀ (l m : List Ed), l.Pairwise ltE → m.Pairwise ltE → (∀ x, x ∈ l ↔ x ∈ m) → l = m
  | [], [], _, _, _ => rfl
  | [], y :: m, _, _, h => by have := (h y).2 (List.mem_cons_self ..); simp at this
  | x :: l, [], _, _, h => by have := (h x).1 (List.mem_cons_self ..); simp at this
  | x :: l, y :: m, hl, hm, h => by
    have e : x = y := by
      rcases List.mem_cons.1 ((h x).1 (List.mem_cons_self ..)) with e | e
      · exact e
      · rcases List.mem_cons.1 ((h y).2 (List.mem_cons_self ..)) with e2 | e2
        · exact e2.symm
        · exact absurd (ltE_trans (List.rel_of_pairwise_cons hl e2) (List.rel_of_pairwise_cons hm e)) (ltE_irrefl _)
    subst e
    rw [strict_eq l m (List.Pairwise.of_cons hl) (List.Pairwise.of_cons hm) fun z => ?_]
    constructor
    · intro hz
      rcases List.mem_cons.1 ((h z).1 (List.mem_cons_of_mem _ hz)) with e | e
      · subst e; exact absurd (List.rel_of_pairwise_cons hl hz) (ltE_irrefl _)
      · exact e
    · intro hz
      rcases List.mem_cons.1 ((h z).2 (List.mem_cons_of_mem _ hz)) with e | e
      · subst e; exact absurd (List.rel_of_pairwise_cons hm hz) (ltE_irrefl _)
      · exact e
/-- The edges that graph.Normal makes. -/
def setE (l : List Ed) : List Ed := compactE (isortE (normsE l))
theorem setE_strict (l : List Ed) : (setE l).Pairwise ltE := compactE_strict _ (isortE_sorted _)
theorem setE_mem (l : List Ed) (x : Ed) : x ∈ setE l ↔ x ∈ normsE l := by
  unfold setE
  rw [compactE_mem, (isortE_perm _).mem_iff]
theorem normsE_mem (l : List Ed) (x : Ed) : x ∈ normsE l ↔ ∃ y ∈ l, y.1 ≠ y.2 ∧ x = (min y.1 y.2, max y.1 y.2) := by
  simp only [normsE, List.mem_map, List.mem_filter, decide_eq_true_eq]
  constructor
  · rintro ⟨y, ⟨h1, h2⟩, rfl⟩; exact ⟨y, h1, h2, rfl⟩
  · rintro ⟨y, h1, h2, rfl⟩; exact ⟨y, ⟨h1, h2⟩, rfl⟩
theorem setE_le (l : List Ed) : (setE l).length ≤ l.length := by
  unfold setE
  refine Nat.le_trans (compactE_le _) ?_
  rw [(isortE_perm _).length_eq]
  simp only [normsE, List.length_map]
  exact List.length_filter_le _ _
theorem normalE_ok {n : Int} {l : List Ed} (h0 : 0 ≤ n) (h1 : n ≤ 1000) (h : l.all (okEnds n) = true) (hl : (setE l).length ≤ 4000) : normalE n l = (n, setE l, 0) := by
  unfold normalE
  rw [if_neg (by omega), if_neg (by omega), if_pos h, if_neg (by unfold setE at hl; omega)]
  rfl
theorem normsE_snoc (l : List Ed) (x : Ed) : normsE (l ++ [x]) = normsE l ++ (if x.1 = x.2 then [] else [(min x.1 x.2, max x.1 x.2)]) := by
  by_cases h : x.1 = x.2 <;> simp [normsE, h]
theorem er28_0 (φ : Nat → Nat) : r28_0 φ = [
  ⟨0, .N .mv, [.c (.nils)], none, 0⟩] := Eq.trans rfl rfl
theorem er28_1 (φ : Nat → Nat) : r28_1 φ = [
  ⟨0, .N .mv, [.n 0], none, 0⟩,
  ⟨1, .N .lenS, [.l 0], none, 0⟩,
  ⟨2, .N (.bin .lss), [.l 0, .c (.int .i64 2)], none, 0⟩] := Eq.trans rfl rfl
theorem er28_2 (φ : Nat → Nat) : r28_2 φ = [
  ⟨0, .N .mv, [.n 0], none, 0⟩,
  ⟨1, .N .mv, [.l 0], none, 0⟩] := Eq.trans rfl rfl
theorem er28_3 (φ : Nat → Nat) : r28_3 φ = [
  ⟨0, .N .mv, [.c (.int .i64 1)], none, 0⟩] := Eq.trans rfl rfl
theorem er28_4 (φ : Nat → Nat) : r28_4 φ = [
  ⟨0, .N .mv, [.n 2], none, 0⟩,
  ⟨1, .N .mv, [.n 0], none, 0⟩,
  ⟨2, .N .lenS, [.l 0], none, 0⟩,
  ⟨3, .N (.bin .lss), [.l 2, .l 0], none, 0⟩] := Eq.trans rfl rfl
theorem er28_5 (φ : Nat → Nat) : r28_5 φ = [
  ⟨0, .N .mv, [.n 0], none, 0⟩,
  ⟨1, .N .mv, [.n 2], none, 0⟩,
  ⟨2, .N (.idx 2), [.l 1, .l 0], none, 3⟩,
  ⟨3, .N (.loadN 2), [.l 0], none, 7⟩,
  ⟨4, .N .mv, [.n 0], none, 0⟩,
  ⟨5, .N .mv, [.n 2], none, 0⟩,
  ⟨6, .N (.bin .sub), [.l 0, .c (.int .i64 1)], none, 32⟩,
  ⟨7, .N (.idx 2), [.l 2, .l 0], none, 112⟩,
  ⟨8, .N (.loadN 2), [.l 0], none, 240⟩,
  ⟨9, .N (.eqS [1, 1] false), [.l 5, .l 0], none, 511⟩] := Eq.trans rfl rfl
theorem er28_6 (φ : Nat → Nat) : r28_6 φ = [
  ⟨0, .N .mv, [.n 0], none, 0⟩,
  ⟨1, .N .mv, [.n 2], none, 0⟩,
  ⟨2, .N (.slc 2 true false false), [.l 1, .l 0], none, 0⟩,
  ⟨3, .N .mv, [.l 0], none, 0⟩] := Eq.trans rfl rfl
theorem er28_7 (φ : Nat → Nat) : r28_7 φ = [
  ⟨0, .N .mv, [.c (.int .i64 1)], none, 0⟩] := Eq.trans rfl rfl
theorem er28_8 (φ : Nat → Nat) : r28_8 φ = [
  ⟨0, .N .mv, [.n 4], none, 0⟩,
  ⟨1, .N .mv, [.n 3], none, 0⟩,
  ⟨2, .N .lenS, [.l 0], none, 0⟩,
  ⟨3, .N (.bin .lss), [.l 2, .l 0], none, 0⟩] := Eq.trans rfl rfl
theorem er28_9 (φ : Nat → Nat) : r28_9 φ = [
  ⟨0, .N .mv, [.n 3], none, 0⟩,
  ⟨1, .N .mv, [.n 4], none, 0⟩,
  ⟨2, .N (.idx 2), [.l 1, .l 0], none, 3⟩,
  ⟨3, .N (.loadN 2), [.l 0], none, 7⟩,
  ⟨4, .N .mv, [.n 3], none, 0⟩,
  ⟨5, .N .mv, [.n 4], none, 0⟩,
  ⟨6, .N (.bin .sub), [.l 0, .c (.int .i64 1)], none, 32⟩,
  ⟨7, .N (.idx 2), [.l 2, .l 0], none, 112⟩,
  ⟨8, .N (.loadN 2), [.l 0], none, 240⟩,
  ⟨9, .N (.eqS [1, 1] true), [.l 5, .l 0], none, 511⟩] := Eq.trans rfl rfl
theorem er28_10 (φ : Nat → Nat) : r28_10 φ = [
  ⟨0, .N .mv, [.n 0], none, 0⟩,
  ⟨1, .N .mv, [.n 2], none, 0⟩,
  ⟨2, .N .mv, [.n 3], none, 0⟩,
  ⟨3, .N .mv, [.n 4], none, 0⟩,
  ⟨4, .N (.idx 2), [.l 1, .l 0], none, 0⟩,
  ⟨5, .N (.loadN 2), [.l 0], none, 0⟩,
  ⟨6, .N (.idx 2), [.l 5, .l 4], none, 0⟩,
  ⟨7, .X (.store 2), [.l 0, .l 1], none, 0⟩] := Eq.trans rfl rfl
theorem er28_11 (φ : Nat → Nat) : r28_11 φ = [
  ⟨0, .N .mv, [.n 2], none, 0⟩,
  ⟨1, .N (.bin .add), [.l 0, .c (.int .i64 1)], none, 0⟩,
  ⟨2, .N .mv, [.l 0], none, 0⟩] := Eq.trans rfl rfl
theorem er28_12 (φ : Nat → Nat) : r28_12 φ = [
  ⟨0, .N .mv, [.n 4], none, 0⟩,
  ⟨1, .N (.bin .add), [.l 0, .c (.int .i64 1)], none, 0⟩,
  ⟨2, .N .mv, [.l 0], none, 0⟩] := Eq.trans rfl rfl
theorem er28_14 (φ : Nat → Nat) : r28_14 φ = [
  ⟨0, .N .mv, [.n 0], none, 0⟩,
  ⟨1, .N .mv, [.n 2], none, 0⟩,
  ⟨2, .N (.slc 2 true false false), [.l 1, .l 0], none, 0⟩,
  ⟨3, .X (.clear 2 [.int .i64 0, .int .i64 0]), [.l 0], none, 0⟩] := Eq.trans rfl rfl
theorem er28_15 (φ : Nat → Nat) : r28_15 φ = [
  ⟨0, .N .mv, [.n 0], none, 0⟩,
  ⟨1, .N .mv, [.n 2], none, 0⟩,
  ⟨2, .N (.slc 2 false true false), [.l 1, .l 0], none, 0⟩,
  ⟨3, .N .mv, [.l 0], none, 0⟩] := Eq.trans rfl rfl
theorem er28_16 (φ : Nat → Nat) : r28_16 φ = [
  ⟨0, .N .mv, [.n 2], none, 0⟩,
  ⟨1, .N (.bin .add), [.l 0, .c (.int .i64 1)], none, 0⟩,
  ⟨2, .N .mv, [.l 0], none, 0⟩] := Eq.trans rfl rfl
theorem er28_18 (φ : Nat → Nat) : r28_18 φ = [
  ⟨0, .N .mv, [.n 0], none, 0⟩,
  ⟨1, .N .mv, [.l 0], none, 0⟩] := Eq.trans rfl rfl
set_option maxHeartbeats 1000000 in
theorem w_Compact0 (h : Has A (φ 28) (f28 φ)) (b g o cl : Nat) (ex : Bool) (c : List AV) (es : List Ed) (H : Heap) (K : AV → Heap → Prop) (hb : H[b]? = some (.cells g false c)) (hc : RdE c o es) (h0 : 0 < es.length) (hcl : es.length ≤ cl) (hn : es.length < 4611686018427387904) (hk : ∀ v' c', RdV true (H.set b (.cells g false c')) v' (compactE es) → K v' (H.set b (.cells g false c'))) : PCall A (φ 28) [.sl b g o es.length 2 cl ex] H K := by
  have hbl := lt_of_get hb
  have hset : H.set b (.cells g false c) = H := by
    obtain ⟨h1, h2⟩ := List.getElem?_eq_some_iff.1 hb
    rw [← h2]; exact List.set_getElem_self h1
  have hId : compactE es = es → K (.sl b g o es.length 2 cl ex) H := by
    intro h
    have := hk (.sl b g o es.length 2 cl ex) c (.inr ⟨fun _ => compactE_pos h0, b, g, o, cl, ex, false, c, by rw [h], by simp [hbl], by rw [h]; exact hc⟩)
    rwa [hset] at this
  refine pcall_has h rfl ?_
  simp only [l28_13, l28_17, b28, f28]
  by_cases h2 : es.length < 2
  · have h2' : (es.length : Int) < 2 := by omega
    have h3 : compactE es = es := by
      match es, h2 with
      | [], _ => rfl
      | [x], _ => rfl
    simp [-List.getD_eq_getElem?_getD, -Int.ofNat_toNat, -getElem?_pos, er28_0, er28_1, er28_2, er28_3, er28_4, er28_5, er28_6, er28_7, er28_8, er28_9, er28_10, er28_11, er28_12, er28_14, er28_15, er28_16, er28_18, h2']
    exact hId h3
  have h2' : ¬ (es.length : Int) < 2 := by omega
  simp [-List.getD_eq_getElem?_getD, -Int.ofNat_toNat, -getElem?_pos, er28_0, er28_1, er28_2, er28_3, er28_4, er28_5, er28_6, er28_7, er28_8, er28_9, er28_10, er28_11, er28_12, er28_14, er28_15, er28_16, er28_18, h2']
  refine pc_loopI (fun m st => ∃ (k : Nat) (q r t s : AV), k + m = es.length ∧ 1 ≤ k ∧ (∀ j (h : j + 1 < es.length), j + 1 < k → ¬ es[j] = es[j + 1]) ∧
    st = ([.sl b g o es.length 2 cl ex, .nils, .int .i64 k, .un, .un, .bool false, q, r, t, s], H)) (es.length - 1) ⟨1, _, _, _, _, by omega, by omega, by omega, rfl⟩ ?_
  rintro m st ⟨k, q, r, t, s, hkm, hk1, hd, rfl⟩
  by_cases hlt : k < es.length
  · obtain ⟨k, rfl⟩ : ∃ k', k = k' + 1 := ⟨k - 1, by omega⟩
    obtain ⟨a1, a2⟩ := hc (k + 1) hlt
    obtain ⟨a3, a4⟩ := hc k (by omega)
    have t1 := take2 a1 a2
    have t2 := take2 a3 a4
    have le1 : o + (k + 1) * 2 + 2 ≤ c.length := (List.getElem?_eq_some_iff.1 a2).1
    have le2 : o + k * 2 + 2 ≤ c.length := (List.getElem?_eq_some_iff.1 a4).1
    have hlt' : ((k + 1 : Nat) : Int) < es.length := by omega
    have hw := wrap1 hlt hn
    have hw2 : IntKind.i64.wrap (((k + 1 : Nat) : Int) - 1) = (k : Int) := by rw [wrap_in (by omega) (by omega)]; omega
    have hp1 : (0 : Int) ≤ ((k + 1 : Nat) : Int) := by omega
    have hp2 : (k : Int) < es.length := by omega
    have hki : ((k + 1 : Nat) : Int).toNat = k + 1 := by omega
    generalize hK : ((k + 1 : Nat) : Int) = kk at *
    by_cases hx : es[k + 1] = es[k]
    · simp [-List.getD_eq_getElem?_getD, -Int.ofNat_toNat, -getElem?_pos, er28_0, er28_1, er28_2, er28_3, er28_4, er28_5, er28_6, er28_7, er28_14, er28_15, er28_16, er28_18, hlt', hw2, hb, hp1, hp2, hki, t1, t2, le1, le2, eqS2, hx, bounds3, intArg, -Int.natCast_add]
      subst hK
      refine ⟨⟨by omega, by omega⟩, ?_⟩
      have hc0 : compactE (es.take (k + 2)) = es.take (k + 1) := by
        rw [compactE_take hlt, if_pos hx.symm, List.append_nil]
        exact compactE_none k es (by omega) (fun j h hp => hd j h (by omega))
      refine pc_loopI (fun m st => ∃ (k2 k' : Nat) (c' : List AV) (q r : AV), (k + 1) + k2 + m = es.length ∧ 1 ≤ k2 ∧ k' = (compactE (es.take (k + 1 + k2))).length ∧ k' + 1 ≤ k + 1 + k2 ∧ c'.length = c.length ∧
        RdE c' o (compactE (es.take (k + 1 + k2))) ∧ (∀ j (h : j < es.length), k + k2 ≤ j → c'[o + j * 2]? = some (.int .i64 es[j].1) ∧ c'[o + j * 2 + 1]? = some (.int .i64 es[j].2)) ∧
        st = ([.sl b g o es.length 2 cl ex, .nils, .int .i64 k', .sl b g (o + (k + 1) * 2) (es.length - (k + 1)) 2 (cl - (k + 1)) ex, .int .i64 k2, .bool false, .bool true, .bool true, q, r], H.set b (.cells g false c'))) (es.length - (k + 2)) ⟨1, k + 1, c, t, s, by omega, by omega, ?_, by omega, rfl, ?_, fun j h _ => hc j h, ?_⟩ ?_
      · rw [hc0]; simp; omega
      · rw [hc0]; exact hc.take _
      · rw [hset]; rfl
      rintro m st ⟨k2, k', c', q, r, hm, hk2, hk', hkp, hcc, hR, hU, rfl⟩
      have hbn : (H.set b (.cells g false c'))[b]? = some (.cells g false c') := by simp [hbl]
      have hle3 : k' ≤ es.length := by omega
      by_cases hl2 : k + 1 + k2 < es.length
      · have hl2' : (k2 : Int) < ((es.length - (k + 1) : Nat) : Int) := by omega
        obtain ⟨u1, u2⟩ := hU (k + 1 + k2) hl2 (by omega)
        obtain ⟨u3, u4⟩ := hU (k + k2) (by omega) (by omega)
        have v1 := take2 u1 u2
        have v2 := take2 u3 u4
        have w1 : o + (k + 1 + k2) * 2 + 2 ≤ c'.length := (List.getElem?_eq_some_iff.1 u2).1
        have w2 : o + (k + k2) * 2 + 2 ≤ c'.length := (List.getElem?_eq_some_iff.1 u4).1
        rw [show o + (k + 1 + k2) * 2 = o + (k + 1) * 2 + k2 * 2 by omega] at v1 w1
        rw [show o + (k + k2) * 2 = o + (k + 1) * 2 + (k2 - 1) * 2 by omega] at v2 w2
        have x1 : IntKind.i64.wrap ((k2 : Int) - 1) = ((k2 - 1 : Nat) : Int) := by rw [wrap_in (by omega) (by omega)]; omega
        have x2 : ((k2 - 1 : Nat) : Int) < ((es.length - (k + 1) : Nat) : Int) := by omega
        have x3 : IntKind.i64.wrap ((k2 : Int) + 1) = ((k2 + 1 : Nat) : Int) := by rw [wrap_in (by omega) (by omega)]; omega
        have x4 : IntKind.i64.wrap ((k' : Int) + 1) = ((k' + 1 : Nat) : Int) := by rw [wrap_in (by omega) (by omega)]; omega
        have x5 : k2 < es.length - (k + 1) := by omega
        have x6 : k2 - 1 < es.length - (k + 1) := by omega
        have x7 : k' < es.length := by omega
        have x8 : o + k' * 2 + 2 ≤ c'.length := by omega
        have hct := compactE_take' (es := es) (p := k + 1 + k2) (q := k + k2) (by omega) hl2
        by_cases hy : es[k + 1 + k2] = es[k + k2]
        · have hct' : compactE (es.take (k + 1 + (k2 + 1))) = compactE (es.take (k + 1 + k2)) := by
            rw [show k + 1 + (k2 + 1) = k + 1 + k2 + 1 by omega, hct, if_pos hy, List.append_nil]
          simp [-List.getD_eq_getElem?_getD, -Int.ofNat_toNat, -getElem?_pos, er28_0, er28_1, er28_2, er28_3, er28_4, er28_5, er28_6, er28_7, er28_8, er28_9, er28_10, er28_11, er28_12, er28_14, er28_15, er28_16, er28_18, hbn, v1, v2, w1, w2, x1, x2, x3, x5, x6, eqS2, hy]
          exact next_mk (m - 1) (by omega) ⟨k2 + 1, k', c', _, _, by omega, by omega, by rw [hct']; exact hk', by omega, hcc, by rw [hct']; exact hR, fun j h hj => hU j h (by omega), rfl⟩
        · have hct' : compactE (es.take (k + 1 + (k2 + 1))) = compactE (es.take (k + 1 + k2)) ++ [es[k + 1 + k2]] := by
            rw [show k + 1 + (k2 + 1) = k + 1 + k2 + 1 by omega, hct, if_neg hy]
          simp [-List.getD_eq_getElem?_getD, -Int.ofNat_toNat, -getElem?_pos, er28_0, er28_1, er28_2, er28_3, er28_4, er28_5, er28_6, er28_7, er28_8, er28_9, er28_10, er28_11, er28_12, er28_14, er28_15, er28_16, er28_18, hbn, v1, v2, w1, w2, x1, x2, x3, x4, x5, x6, x7, x8, eqS2, hy]
          have hsl : (setAt c' (o + k' * 2) [.int .i64 es[k + 1 + k2].1, .int .i64 es[k + 1 + k2].2]).length = c'.length := setAt_len (by simpa using x8)
          refine next_mk (m - 1) (by omega) ⟨k2 + 1, k' + 1, setAt c' (o + k' * 2) [.int .i64 es[k + 1 + k2].1, .int .i64 es[k + 1 + k2].2], _, _, by omega, by omega, by rw [hct']; simp [hk'], by omega, by rw [hsl, hcc], ?_, ?_, rfl⟩
          · rw [hct']
            intro i hi
            rw [setAt_get (by simpa using x8), setAt_get (by simpa using x8)]
            simp at hi
            by_cases he : i < k'
            · rw [if_neg (by omega), if_neg (by omega)]
              obtain ⟨z1, z2⟩ := hR i (by omega)
              rw [List.getElem_append_left (by omega)]
              exact ⟨z1, z2⟩
            · have hik : i = k' := by omega
              subst hik
              rw [if_pos ⟨by omega, by simp⟩, if_pos ⟨by omega, by simp⟩]
              rw [List.getElem_append_right (by omega)]
              simp [hk']
          · intro j h hj
            obtain ⟨z1, z2⟩ := hU j h (by omega)
            rw [setAt_get (by simpa using x8), setAt_get (by simpa using x8), if_neg (by simp; omega), if_neg (by simp; omega)]
            exact ⟨z1, z2⟩
      · have hpl : k + 1 + k2 = es.length := by omega
        have hl2' : ¬ k2 < es.length - (k + 1) := by omega
        rw [hpl, List.take_length] at hk' hR
        have y1 : (k' : Int) ≤ es.length := by omega
        have y2 : ¬ es.length - k' = 0 := by omega
        have hcl2 : o + es.length * 2 ≤ c'.length := by
          obtain ⟨z1, z2⟩ := hU (es.length - 1) (by omega) (by omega)
          have := (List.getElem?_eq_some_iff.1 z2).1
          omega
        have y3 : o + k' * 2 + (es.length - k') * 2 ≤ c'.length := by omega
        have y4 : (es.length : Int) ≤ cl := by omega
        simp [-List.getD_eq_getElem?_getD, -Int.ofNat_toNat, -getElem?_pos, er28_0, er28_1, er28_2, er28_3, er28_4, er28_5, er28_6, er28_7, er28_8, er28_9, er28_10, er28_11, er28_12, er28_14, er28_15, er28_16, er28_18, hbn, hl2', y1, y2, y3, y4, hle3, hcl, bounds3, intArg]
        refine ⟨by omega, hk _ _ (.inr ⟨fun _ => compactE_pos h0, b, g, o, cl, ex, false, setAt c' (o + k' * 2) (repA [.int .i64 0, .int .i64 0] (es.length - k')), by rw [← hk'], List.getElem?_set_self hbl, ?_⟩)⟩
        have hrl : ∀ n, (repA [AV.int IntKind.i64 0, AV.int IntKind.i64 0] n).length = n * 2 := fun n => by rw [repA_len]; rfl
        intro i hi
        obtain ⟨z1, z2⟩ := hR i hi
        rw [setAt_get (by rw [hrl]; omega), setAt_get (by rw [hrl]; omega), if_neg (by omega), if_neg (by omega)]
        exact ⟨z1, z2⟩
    · simp [-List.getD_eq_getElem?_getD, -Int.ofNat_toNat, -getElem?_pos, er28_0, er28_1, er28_2, er28_3, er28_4, er28_5, er28_6, er28_7, er28_8, er28_9, er28_10, er28_11, er28_12, er28_14, er28_15, er28_16, er28_18, hlt', hw2, hw, hb, hp1, hp2, hki, t1, t2, le1, le2, eqS2, hx, -Int.natCast_add]
      subst hK
      refine next_mk (m - 1) (by omega) ⟨k + 2, _, _, _, _, by omega, by omega, ?_, rfl⟩
      intro j h hj
      by_cases e : j = k
      · subst e; exact fun h => hx h.symm
      · exact hd j h (by omega)
  · have hkl : k = es.length := by omega
    have hlt' : ¬ (k : Int) < es.length := by omega
    have h3 : compactE es = es := by
      have := compactE_none (es.length - 1) es (by omega) (fun j h hp => hd j h (by omega))
      rwa [show es.length - 1 + 1 = es.length by omega, List.take_length] at this
    simp [-List.getD_eq_getElem?_getD, -Int.ofNat_toNat, -getElem?_pos, er28_0, er28_1, er28_2, er28_3, er28_4, er28_5, er28_6, er28_7, er28_8, er28_9, er28_10, er28_11, er28_12, er28_14, er28_15, er28_16, er28_18, hlt']
    exact hId h3
theorem w_Compact (h : Has A (φ 28) (f28 φ)) {P : Nat} {H : Heap} {v : AV} {es : List Ed} {K : AV → Heap → Prop} (hv : OwnE true P H v es) (hn : es.length < 1000000000000)
    (hk : ∀ v' H', RdV true H' v' (compactE es) → (∀ b, b < P → H'[b]? = H[b]?) → H.length ≤ H'.length → K v' H') : PCall A (φ 28) [v] H K := by
  rcases hv with ⟨h0, _, hv⟩ | ⟨h0, b, g, ex, rfl, h1, h2, hb⟩
  · have : v = .nils := hv
    subst this
    have : es = [] := List.length_eq_zero_iff.1 h0
    subst this
    refine pcall_has h rfl ?_
    simp only [l28_13, l28_17, b28, f28]
    simp [-List.getD_eq_getElem?_getD, -Int.ofNat_toNat, -getElem?_pos, er28_0, er28_1, er28_2, er28_3, er28_4, er28_5, er28_6, er28_7, er28_8, er28_9, er28_10, er28_11, er28_12, er28_14, er28_15, er28_16, er28_18]
    exact hk _ _ (.inl ⟨rfl, rfl, rfl⟩) (fun _ _ => rfl) (Nat.le_refl _)
  · exact w_Compact0 h b g 0 _ ex _ es H K hb (RdE_cells es) h0 (Nat.le_refl _) (by omega) (fun v' c' hv => hk v' _ hv (fun b' hb' => List.getElem?_set_ne (by omega)) (by simp))
theorem w_sort (hs : A.ext (φ 27) = some (sortExt (φ 29))) {P : Nat} {H : Heap} {v : AV} {es : List Ed} (h : OwnE true P H v es) (hn : es.length < 1000000000000) {K : AV → Heap → Prop}
    (hk : ∀ H', OwnE true P H' v (isortE es) → (∀ b, b < P → H'[b]? = H[b]?) → H.length ≤ H'.length → K (.tup []) H') : PCall A (φ 27) [v, .fn (.func (φ 29)) [] []] H K := by
  have hl : (isortE es).length = es.length := (isortE_perm es).length_eq
  rcases h with ⟨h0, _, h⟩ | ⟨h0, b, g, ex, rfl, h1, h2, hb⟩
  · have : v = .nils := h
    subst this
    have : es = [] := List.length_eq_zero_iff.1 h0
    subst this
    exact pcall_ext hs (v := .tup []) (H1 := H) (by simp [sortExt]) (hk H (.inl ⟨rfl, rfl, rfl⟩) (fun _ _ => rfl) (Nat.le_refl _))
  · refine pcall_ext hs (v := .tup []) (H1 := H.set b (.cells g false (cellsE (isortE es)))) ?_ (hk _ (.inr ⟨by omega, b, g, ex, by rw [hl], h1, by rw [cellsE_length], List.getElem?_set_self (lt_of_get hb)⟩) (fun b' hb' => List.getElem?_set_ne (by omega)) (by simp))
    have e1 : (cellsE es).take (es.length * 2) = cellsE es := by rw [← cellsE_length, List.take_length]
    have e2 : setAt (cellsE es) 0 (cellsE (isortE es)) = cellsE (isortE es) := by
      simp only [setAt, List.take_zero, List.nil_append, Nat.zero_add]
      rw [List.drop_eq_nil_of_le (by rw [cellsE_length, cellsE_length, hl]; exact Nat.le_refl _), List.append_nil]
    simp [sortExt, h0, hn, hb, cellsE_length, e1, decE_cells, e2]
end Go.Ai.G
namespace Go.Ai.G
open Go.Ai
set_option maxRecDepth 100000
set_option linter.unusedSimpArgs false
set_option linter.unusedVariables false
variable {A : AProg} {φ : Nat → Nat}
attribute [local simp ↓] getD_z getD_s hid_k hid_o hid_q hid_v PO_nil PO_none PO_grd PD_nil PD_none PD_grd PDO_N PDO_X PDO_call PDO_calli PDO_callv PStep_N PStep_X PStep_call PStep_calli PC_skip PC_lab
  PC_ret PC_exit PC_reg PC_draw PC_seq PC_block PC_loop PC_scope PC_cond thenC_norm thenC_ret thenC_exit blockC_norm blockC_ret blockC_exit loopC_norm loopC_ret loopC_exit endR_ret
  endR_norm
attribute [local simp] gz PDX_free PDX_eq PStep_callv resK_none resK_t resK_tt KNO_val KNO_new KNO_ite KNO_map KXO_some KXO_ite KVA_t KVA_f KG_skip KG_tt KG_ff KG_tf KG_ft KB_true KB_false KNOD_val
  KNOD_new KNOD_ite n_mv n_pick n_bin n_eqB n_eqN n_eqS n_un n_conv n_fadd n_faddV n_fld1 n_fldN n_idx n_idxA n_idxV n_idxAV n_ext n_lenS n_lenS0 n_lenV n_lenT n_lenA n_min n_max
  n_build n_mkfn n_slc n_slc0 n_slcV n_slcA n_load1 n_loadN n_load1V n_loadNV n_alloc n_box n_bsl n_mksl n_nilcP n_nilcV n_nilcI n_nilcF x_store x_clear0 x_clear b_add b_sub b_mul
  b_eql b_neq b_lss b_leq b_gtr b_geq b_and16 unV ntouch gather hide unhide evalOpd applyOuts int_bne int_beq ite_bool ite_int one_bool cells_bool one_int cells_int one_str cells_str
  one_nilp cells_nilp one_ptr cells_ptr one_nils cells_nils one_sl cells_sl one_nilf cells_nilf one_fn cells_fn one_nili cells_nili one_mp cells_mp one_nilm cells_nilm one_iface
  cells_iface one_vs cells_vs one_vp cells_vp cells_agg Nat.testBit setAt_1 setAt_2 closeds_nil closeds_cons closed_bool closed_int closed_str closed_nilp closed_nils closed_nilm
  closed_nilf closed_nili closed_agg closed_tup closed_vs closed_vp closed_iface closed_fn closeds_cI closeds_cE viewA_closed viewR_closed AV.scal AV.scal0 fillA repA part_bool
  part_int part_str part_nilp part_ptr part_nils part_sl part_nilm part_mp part_nilf part_fn part_nili part_iface part_agg part_vs part_vp viewA_sl1 vaSl_cells wrap_0 wrap_1 wrap_2
  wrap_m1 set_last get_last
theorem er1_0 (φ : Nat → Nat) : r1_0 φ = [
  ⟨0, .N (.alloc [.int .i64 0, .nils]), [], none, 0⟩,
  ⟨1, .N .mv, [.c (.int .i64 0)], none, 0⟩] := Eq.trans rfl rfl
theorem er1_1 (φ : Nat → Nat) : r1_1 φ = [
  ⟨0, .N .mv, [.n 0], none, 0⟩,
  ⟨1, .N (.bin .lss), [.l 0, .c (.int .i64 0)], none, 0⟩,
  ⟨2, .N .mv, [.l 0], none, 0⟩] := Eq.trans rfl rfl
theorem er1_2 (φ : Nat → Nat) : r1_2 φ = [
  ⟨0, .N (.build [.int .i64 0, .nils] []), [], none, 0⟩,
  ⟨1, .X (.store 2), [.n 2, .l 0], none, 0⟩,
  ⟨2, .N .mv, [.c (.int .i64 1)], none, 0⟩] := Eq.trans rfl rfl
theorem er1_3 (φ : Nat → Nat) : r1_3 φ = [
  ⟨0, .N .mv, [.n 0], none, 0⟩,
  ⟨1, .N (.bin .gtr), [.l 0, .c (.int .i64 1000)], none, 0⟩,
  ⟨2, .N .mv, [.l 0], none, 0⟩] := Eq.trans rfl rfl
theorem er1_4 (φ : Nat → Nat) : r1_4 φ = [
  ⟨0, .N (.build [.int .i64 0, .nils] []), [], none, 0⟩,
  ⟨1, .X (.store 2), [.n 2, .l 0], none, 0⟩,
  ⟨2, .N .mv, [.c (.int .i64 5)], none, 0⟩] := Eq.trans rfl rfl
theorem er1_5 (φ : Nat → Nat) : r1_5 φ = [
  ⟨0, .N .mv, [.c (.nils)], none, 0⟩] := Eq.trans rfl rfl
theorem er1_6 (φ : Nat → Nat) : r1_6 φ = [
  ⟨0, .N .mv, [.n 1], none, 0⟩,
  ⟨1, .N .lenS, [.l 0], none, 0⟩,
  ⟨2, .N .mv, [.c (.int .i64 0)], none, 0⟩] := Eq.trans rfl rfl
theorem er1_7 (φ : Nat → Nat) : r1_7 φ = [
  ⟨0, .N (.bin .lss), [.n 10, .n 9], none, 0⟩] := Eq.trans rfl rfl
theorem er1_8 (φ : Nat → Nat) : r1_8 φ = [
  ⟨0, .N (.idx 2), [.n 8, .n 10], none, 0⟩,
  ⟨1, .N (.loadN 2), [.l 0], none, 0⟩,
  ⟨2, .N (.alloc [.int .i64 0, .int .i64 0]), [], none, 0⟩,
  ⟨3, .X (.store 2), [.l 0, .l 1], none, 0⟩] := Eq.trans rfl rfl
theorem er1_9 (φ : Nat → Nat) : r1_9 φ = [
  ⟨0, .N (.fadd 0), [.n 5], none, 0⟩,
  ⟨1, .N .load1, [.l 0], none, 0⟩,
  ⟨2, .N (.fadd 1), [.n 5], none, 0⟩,
  ⟨3, .N .load1, [.l 0], none, 0⟩,
  ⟨4, .N .min, [.l 2, .l 0], none, 0⟩,
  ⟨5, .N (.bin .lss), [.l 0, .c (.int .i64 0)], none, 0⟩,
  ⟨6, .N .mv, [.l 0], none, 0⟩,
  ⟨7, .N (.fadd 0), [.n 5], some (.l 0, false), 0⟩,
  ⟨8, .N .load1, [.l 0], some (.l 1, false), 0⟩,
  ⟨9, .N (.fadd 1), [.n 5], some (.l 2, false), 0⟩,
  ⟨10, .N .load1, [.l 0], some (.l 3, false), 0⟩,
  ⟨11, .N .max, [.l 2, .l 0], some (.l 4, false), 0⟩,
  ⟨12, .N .mv, [.n 0], some (.l 5, false), 0⟩,
  ⟨13, .N (.bin .geq), [.l 1, .l 0], some (.l 6, false), 0⟩,
  ⟨14, .N .pick, [.l 7, .c (.bool true), .l 0], none, 0⟩] := Eq.trans rfl rfl
theorem er1_10 (φ : Nat → Nat) : r1_10 φ = [
  ⟨0, .N (.build [.int .i64 0, .nils] []), [], none, 0⟩,
  ⟨1, .X (.store 2), [.n 2, .l 0], none, 0⟩,
  ⟨2, .N .mv, [.c (.int .i64 4)], none, 0⟩] := Eq.trans rfl rfl
theorem er1_11 (φ : Nat → Nat) : r1_11 φ = [
  ⟨0, .N (.fadd 0), [.n 5], none, 0⟩,
  ⟨1, .N .load1, [.l 0], none, 0⟩,
  ⟨2, .N (.fadd 1), [.n 5], none, 0⟩,
  ⟨3, .N .load1, [.l 0], none, 0⟩,
  ⟨4, .N (.bin .neq), [.l 2, .l 0], none, 0⟩] := Eq.trans rfl rfl
theorem er1_12 (φ : Nat → Nat) : r1_12 φ = [
  ⟨0, .N .mv, [.n 4], none, 0⟩,
  ⟨1, .N (.fadd 0), [.n 5], none, 0⟩,
  ⟨2, .N .load1, [.l 0], none, 0⟩,
  ⟨3, .N (.fadd 1), [.n 5], none, 0⟩,
  ⟨4, .N .load1, [.l 0], none, 0⟩,
  ⟨5, .N .min, [.l 2, .l 0], none, 0⟩,
  ⟨6, .N (.fadd 0), [.n 5], none, 0⟩,
  ⟨7, .N .load1, [.l 0], none, 0⟩,
  ⟨8, .N (.fadd 1), [.n 5], none, 0⟩,
  ⟨9, .N .load1, [.l 0], none, 0⟩,
  ⟨10, .N .max, [.l 2, .l 0], none, 0⟩,
  ⟨11, .N (.build [.int .i64 0, .int .i64 0] [(0, 1), (1, 1)]), [.l 5, .l 0], none, 0⟩,
  ⟨12, .N (.bsl [.int .i64 0, .int .i64 0] 1 2 [(0, 2)]), [.l 0], none, 0⟩,
  ⟨13, .X (.app 2 16), [.l 12, .l 0], none, 0⟩,
  ⟨14, .N .mv, [.l 0], none, 0⟩] := Eq.trans rfl rfl
theorem er1_13 (φ : Nat → Nat) : r1_13 φ = [
  ⟨0, .N (.bin .add), [.n 10, .c (.int .i64 1)], none, 0⟩,
  ⟨1, .N .mv, [.l 0], none, 0⟩] := Eq.trans rfl rfl
theorem er1_15 (φ : Nat → Nat) : r1_15 φ = [
  ⟨0, .N .mv, [.n 4], none, 0⟩,
  ⟨1, .call (φ 27), [.l 0, .c (.fn (.func (φ 29)) [] [])], none, 0⟩] := Eq.trans rfl rfl
theorem er1_16 (φ : Nat → Nat) : r1_16 φ = [
  ⟨0, .N .mv, [.n 4], none, 0⟩,
  ⟨1, .call (φ 28), [.l 0], none, 0⟩,
  ⟨2, .N .mv, [.l 0], none, 0⟩] := Eq.trans rfl rfl
theorem er1_17 (φ : Nat → Nat) : r1_17 φ = [
  ⟨0, .N .mv, [.n 4], none, 0⟩,
  ⟨1, .N .lenS, [.l 0], none, 0⟩,
  ⟨2, .N (.bin .gtr), [.l 0, .c (.int .i64 4000)], none, 0⟩] := Eq.trans rfl rfl
theorem er1_18 (φ : Nat → Nat) : r1_18 φ = [
  ⟨0, .N (.build [.int .i64 0, .nils] []), [], none, 0⟩,
  ⟨1, .X (.store 2), [.n 2, .l 0], none, 0⟩,
  ⟨2, .N .mv, [.c (.int .i64 5)], none, 0⟩] := Eq.trans rfl rfl
theorem er1_19 (φ : Nat → Nat) : r1_19 φ = [
  ⟨0, .N .mv, [.n 0], none, 0⟩,
  ⟨1, .N .mv, [.n 4], none, 0⟩,
  ⟨2, .N (.build [.int .i64 0, .nils] [(0, 1), (1, 1)]), [.l 1, .l 0], none, 0⟩,
  ⟨3, .X (.store 2), [.n 2, .l 0], none, 0⟩,
  ⟨4, .N .mv, [.c (.int .i64 0)], none, 0⟩] := Eq.trans rfl rfl
theorem normsE_len (l : List Ed) : (normsE l).length ≤ l.length := by
  simp only [normsE, List.length_map]; exact List.length_filter_le _ _
abbrev nR (n : Int) (l : List Ed) : AV := .tup [gV (normalE n l).1 (rE (normalE n l).2.1), .int .i64 (normalE n l).2.2]
theorem viewG0 (H : Heap) (e : Int) : viewR H (.tup [.agg [.int .i64 0, .nils], .int .i64 e]) = some (.tup [.agg [.int .i64 0, .nils], .int .i64 e]) := viewR_closed rfl
set_option maxHeartbeats 1000000 in
theorem w_Normal (h : Has A (φ 1) (f1 φ)) (hs : A.ext (φ 27) = some (sortExt (φ 29))) (hc : Has A (φ 28) (f28 φ)) (n : Int) (v : AV) (l : List Ed) (hv : IsE v l) (hn : l.length < 1000000000) :
    PVal A (φ 1) [.int .i64 n, v] (nR n l) := by
  refine pval_has h rfl ?_
  simp only [l1_14, b1, f1]
  have hlen := hv.len
  by_cases h0 : n < 0
  · simp [-List.getD_eq_getElem?_getD, -Int.ofNat_toNat, -getElem?_pos, er1_0, er1_1, er1_2, er1_3, er1_4, er1_5, er1_6, er1_7, er1_8, er1_9, er1_10, er1_11, er1_12, er1_13, er1_15, er1_16, er1_17, er1_18, er1_19, h0, resK, resVs, resV, pack, viewG0, normalE, rv]
  by_cases h1 : 1000 < n
  · simp [-List.getD_eq_getElem?_getD, -Int.ofNat_toNat, -getElem?_pos, er1_0, er1_1, er1_2, er1_3, er1_4, er1_5, er1_6, er1_7, er1_8, er1_9, er1_10, er1_11, er1_12, er1_13, er1_15, er1_16, er1_17, er1_18, er1_19, h0, h1, resK, resVs, resV, pack, viewG0, normalE, rv]
  simp [-List.getD_eq_getElem?_getD, -Int.ofNat_toNat, -getElem?_pos, er1_0, er1_1, er1_2, er1_3, er1_4, er1_5, er1_6, er1_7, er1_8, er1_9, er1_10, er1_11, er1_12, er1_13, er1_15, er1_16, er1_17, er1_18, er1_19, h0, h1, hlen]
  refine pc_loopI (fun m st => ∃ (i : Nat) (a p5 p11 p12 p13 p14 : AV) (H : Heap), i + m = l.length ∧ (∀ x ∈ l.take i, okEnds n x = true) ∧ H[0]? = some (.cells 0 false [.int .i64 0, .nils]) ∧ OwnE true 1 H a (normsE (l.take i)) ∧
    st = ([.int .i64 n, v, .ptr 0 0 0, .int .i64 0, a, p5, .bool false, .bool false, v, .int .i64 l.length, .int .i64 i, p11, p12, p13, p14], H)) l.length
    ⟨0, .nils, _, _, _, _, _, _, by simp, by simp, rfl, own_nil _ _ _, rfl⟩ ?_
  rintro m st ⟨i, a, p5, p11, p12, p13, p14, H, hi, hok, e0, hown, rfl⟩
  by_cases hlt : i < l.length
  · obtain ⟨i1, _, _, le1, t1⟩ := hv.at hlt
    have hw := wrap1 hlt (by omega)
    simp [-List.getD_eq_getElem?_getD, -Int.ofNat_toNat, -getElem?_pos, er1_0, er1_1, er1_2, er1_3, er1_4, er1_5, er1_6, er1_7, er1_8, er1_13, er1_15, er1_16, er1_17, er1_18, er1_19, hlt, i1, le1, t1]
    have e0' := get_more [Ob.cells 0 false [AV.int IntKind.i64 l[i].1, AV.int IntKind.i64 l[i].2]] e0
    have e2 := get_last H (Ob.cells 0 false [AV.int IntKind.i64 l[i].1, AV.int IntKind.i64 l[i].2])
    have hown2 := Own.more hown [Ob.cells 0 false [AV.int IntKind.i64 l[i].1, AV.int IntKind.i64 l[i].2]]
    generalize H ++ [Ob.cells 0 false [AV.int IntKind.i64 l[i].1, AV.int IntKind.i64 l[i].2]] = Hr at *
    have hpl := lt_of_get e0'
    have m1 := minV_i l[i].1 l[i].2
    have m2 := maxV_i l[i].1 l[i].2
    have hset : ∀ z, (Hr.set 0 z)[0]? = some z := fun z => List.getElem?_set_self hpl
    have hoke : okEnds n l[i] = (decide (0 ≤ min l[i].1 l[i].2) && decide (max l[i].1 l[i].2 < n)) := rfl
    have hsn := normsE_snoc (l.take i) l[i]
    have hle2 : l.take (i + 1) = l.take i ++ [l[i]] := List.take_succ_eq_append_getElem hlt
    rw [← hle2] at hsn
    have hbad : okEnds n l[i] = false → normalE n l = (0, [], 4) := by
      intro hf
      have hno : l.all (okEnds n) = false := by rw [List.all_eq_false]; exact ⟨l[i], List.getElem_mem hlt, by simp [hf]⟩
      simp only [normalE, if_neg h0, if_neg (show ¬ n > 1000 from h1), hno, Bool.false_eq_true, if_false]
    generalize min l[i].1 l[i].2 = mn at *
    generalize max l[i].1 l[i].2 = mx at *
    generalize hxx : l[i].1 = x at *
    generalize hyy : l[i].2 = y at *
    by_cases hm : mn < 0
    · simp [-List.getD_eq_getElem?_getD, -Int.ofNat_toNat, -getElem?_pos, er1_0, er1_1, er1_2, er1_3, er1_4, er1_5, er1_6, er1_7, er1_8, er1_9, er1_10, er1_11, er1_12, er1_13, er1_15, er1_16, er1_17, er1_18, er1_19, e0', e2, foldV, m1, m2, hm, resK, resVs, resV, pack, hset, viewG0, hbad (by rw [hoke]; simp; omega), rv]
    by_cases hM : n ≤ mx
    · simp [-List.getD_eq_getElem?_getD, -Int.ofNat_toNat, -getElem?_pos, er1_0, er1_1, er1_2, er1_3, er1_4, er1_5, er1_6, er1_7, er1_8, er1_9, er1_10, er1_11, er1_12, er1_13, er1_15, er1_16, er1_17, er1_18, er1_19, e0', e2, foldV, m1, m2, hm, hM, resK, resVs, resV, pack, hset, viewG0, hbad (by rw [hoke]; simp; omega), rv]
    have hok2 : ∀ x ∈ l.take (i + 1), okEnds n x = true := by
      intro z hz
      rw [hle2] at hz
      rcases List.mem_append.1 hz with h | h
      · exact hok z h
      · simp at h; subst h; rw [hoke, decide_eq_true (by omega), decide_eq_true (by omega)]; rfl
    by_cases hab : x = y
    · subst hab
      simp [-List.getD_eq_getElem?_getD, -Int.ofNat_toNat, -getElem?_pos, er1_0, er1_1, er1_2, er1_3, er1_4, er1_5, er1_6, er1_7, er1_8, er1_9, er1_10, er1_11, er1_12, er1_13, er1_15, er1_16, er1_17, er1_18, er1_19, e0', e2, foldV, m1, m2, hm, hM, hw]
      rw [if_pos rfl, List.append_nil] at hsn
      exact next_mk (m - 1) (by omega) ⟨i + 1, a, _, _, _, _, _, Hr, by omega, hok2, e0', by rw [hsn]; exact hown2, rfl⟩
    · have hnl := normsE_len (l.take i)
      obtain ⟨a', H3, x1, x2, x3, _, _, _⟩ := OwnE.app1 hown2 mn mx (by omega) (by simp at hnl; omega)
      simp [-List.getD_eq_getElem?_getD, -Int.ofNat_toNat, -getElem?_pos, er1_0, er1_1, er1_2, er1_3, er1_4, er1_5, er1_6, er1_7, er1_8, er1_9, er1_10, er1_11, er1_12, er1_13, er1_15, er1_16, er1_17, er1_18, er1_19, e0', e2, foldV, m1, m2, hm, hM, hab, hw, x1]
      rw [if_neg hab] at hsn
      exact next_mk (m - 1) (by omega) ⟨i + 1, a', _, _, _, _, _, H3, by omega, hok2, by rw [x3 0 (by omega)]; exact e0', by rw [hsn]; exact x2, rfl⟩
  · have hil : i = l.length := by omega
    rw [hil, List.take_length] at hok hown
    have hnl := normsE_len l
    have hall : l.all (okEnds n) = true := List.all_eq_true.2 hok
    simp [-List.getD_eq_getElem?_getD, -Int.ofNat_toNat, -getElem?_pos, er1_0, er1_1, er1_2, er1_3, er1_4, er1_5, er1_6, er1_7, er1_8, er1_9, er1_10, er1_11, er1_12, er1_13, er1_15, er1_16, er1_17, er1_18, er1_19, hlt]
    refine w_sort hs hown (by omega) fun H2 y2 y3 y4 => ?_
    simp [-List.getD_eq_getElem?_getD, -Int.ofNat_toNat, -getElem?_pos, er1_0, er1_1, er1_2, er1_3, er1_4, er1_5, er1_6, er1_7, er1_8, er1_9, er1_10, er1_11, er1_12, er1_13, er1_15, er1_16, er1_17, er1_18, er1_19]
    refine w_Compact hc y2 (by rw [(isortE_perm _).length_eq]; omega) fun v' H3 z1 z2 z3 => ?_
    have e3 : H3[0]? = some (.cells 0 false [.int .i64 0, .nils]) := by rw [z2 _ (by omega), y3 _ (by omega)]; exact e0
    have hset : ∀ z, (H3.set 0 z)[0]? = some z := fun z => List.getElem?_set_self (lt_of_get e3)
    have hlc := z1.len
    by_cases h4 : 4000 < (compactE (isortE (normsE l))).length
    · have h4' : (4000 : Int) < (compactE (isortE (normsE l))).length := by omega
      simp [-List.getD_eq_getElem?_getD, -Int.ofNat_toNat, -getElem?_pos, er1_0, er1_1, er1_2, er1_3, er1_4, er1_5, er1_6, er1_7, er1_8, er1_9, er1_10, er1_11, er1_12, er1_13, er1_15, er1_16, er1_17, er1_18, er1_19, hlc, h4', e3, hset, resK, resVs, resV, pack, viewG0]
      simp [normalE, if_neg h0, if_neg (show ¬ n > 1000 from h1), hall, if_pos h4, rv]
    · have h4' : ¬ (4000 : Int) < (compactE (isortE (normsE l))).length := by omega
      have hz : RdV true (H3.set 0 (.cells 0 false [.int .i64 n, v'])) v' (compactE (isortE (normsE l))) := by
        rcases z1 with h | ⟨a1, b, g, o, cl, ex, ro, c, rfl, hb, hr⟩
        · exact .inl h
        · refine .inr ⟨a1, b, g, o, cl, ex, ro, c, rfl, ?_, hr⟩
          by_cases eb : b = 0
          · subst eb
            rw [e3] at hb; cases hb
            have := (hr 0 (a1 rfl)).2
            match o, this with
            | 0, this => simp at this
            | o + 1, this => simp at this
          · rw [List.getElem?_set_ne (fun e => eb e.symm)]; exact hb
      have hgoal := hz.viewG n 0
      simp [-List.getD_eq_getElem?_getD, -Int.ofNat_toNat, -getElem?_pos, er1_0, er1_1, er1_2, er1_3, er1_4, er1_5, er1_6, er1_7, er1_8, er1_9, er1_10, er1_11, er1_12, er1_13, er1_15, er1_16, er1_17, er1_18, er1_19, hlc, h4', e3, hset, resK, resVs, resV, pack, z1.cells, z1.one, z1.part, hgoal]
      simp [normalE, if_neg h0, if_neg (show ¬ n > 1000 from h1), hall, if_neg h4]
end Go.Ai.G
namespace Go.Ai.G
open Go.Ai
set_option maxRecDepth 100000
set_option linter.unusedSimpArgs false
set_option linter.unusedVariables false
variable {A : AProg} {φ : Nat → Nat}
/-! ### Rows of numbers, each one's own -/
structure OwnRs (P : Nat) (H : Heap) (us : List AV) (rs : List (List Int)) : Prop where
  len : us.length = rs.length
  own : ∀ (i : Nat) u r, us[i]? = some u → rs[i]? = some r → OwnI true P H u r
  sep : ∀ (i j : Nat) u u' b, i ≠ j → us[i]? = some u → us[j]? = some u' → blkOf u = some b → blkOf u' ≠ some b
theorem OwnRs.keep {P : Nat} {H H' : Heap} {us : List AV} {rs : List (List Int)} (h : OwnRs P H us rs) (hk : ∀ b, b < H.length → P ≤ b → H'[b]? = H[b]?) : OwnRs P H' us rs :=
  ⟨h.len, fun i u r hu hr => Own.keep (h.own i u r hu hr) fun b hb hub => hk b hb (Own.blk (h.own i u r hu hr) hub).1, h.sep⟩
/-- A row grows. -/
theorem OwnRs.grow {P : Nat} {H H' : Heap} {us : List AV} {rs : List (List Int)} {i : Nat} {u u' : AV} {r r' : List Int} (h : OwnRs P H us rs) (hu : us[i]? = some u) (hr : rs[i]? = some r) (hown : OwnI true P H' u' r')
    (hk : ∀ b, b < H.length → blkOf u ≠ some b → H'[b]? = H[b]?) (hb : ∀ b, blkOf u' = some b → blkOf u = some b ∨ H.length < b) : OwnRs P H' (us.set i u') (rs.set i r') := by
  refine ⟨by simp [h.len], fun j w s hw hs => ?_, fun j k w w' b hjk hw hw' hwb hwb' => ?_⟩
  · rw [List.getElem?_set] at hw hs
    by_cases e : i = j
    · subst e
      rw [if_pos rfl] at hw hs
      rw [if_pos (List.getElem?_eq_some_iff.1 hu).1] at hw
      rw [if_pos (List.getElem?_eq_some_iff.1 hr).1] at hs
      cases hw; cases hs; exact hown
    · rw [if_neg e] at hw hs
      exact Own.keep (h.own j w s hw hs) fun b hbl hwb => hk b hbl fun hub => h.sep i j u w b e hu hw hub hwb
  · have key : ∀ (j k : Nat) (w w' : AV), j = i → k ≠ i → w = u' → us[k]? = some w' → blkOf w = some b → blkOf w' = some b → False := by
      intro j k z z' e1 e2 e3 hz' h1 h2
      rw [e3] at h1
      rcases hb b h1 with h3 | h3
      · exact h.sep i k u z' b (fun e => e2 e.symm) hu hz' h3 h2
      · obtain ⟨s, hs⟩ : ∃ s, rs[k]? = some s := ⟨rs[k]'(by rw [← h.len]; exact (List.getElem?_eq_some_iff.1 hz').1), List.getElem?_eq_getElem _⟩
        have := (Own.blk (h.own k z' s hz' hs) h2).2
        omega
    rw [List.getElem?_set] at hw hw'
    by_cases e : i = j
    · subst e
      have e2 : ¬ i = k := hjk
      rw [if_pos rfl, if_pos (List.getElem?_eq_some_iff.1 hu).1] at hw
      rw [if_neg e2] at hw'
      cases hw
      exact key i k _ w' rfl (fun e => e2 e.symm) rfl hw' hwb hwb'
    · rw [if_neg e] at hw
      by_cases e3 : i = k
      · subst e3
        rw [if_pos rfl, if_pos (List.getElem?_eq_some_iff.1 hu).1] at hw'
        cases hw'
        exact key i j _ w rfl (fun e' => e e'.symm) rfl hw hwb' hwb
      · rw [if_neg e3] at hw'
        exact h.sep j k w w' b hjk hw hw' hwb hwb'
theorem repA_repl (x : AV) : ∀ n, repA [x] n = List.replicate n x
  | 0 => rfl
  | n + 1 => by simp [repA, repA_repl x n, List.replicate_succ]
theorem ownRs_new (P : Nat) (H : Heap) (n : Nat) (f : Nat → List Int) (hf : ∀ i, i < n → f i = []) : OwnRs P H (List.replicate n .nils) ((List.range n).map f) := by
  refine ⟨by simp, fun i u r hu hr => ?_, fun i j u u' b _ hu _ hb => ?_⟩
  · rw [List.getElem?_replicate] at hu
    split at hu
    · rename_i hi
      cases hu
      simp [hi] at hr
      rw [← hr, hf i hi]
      exact own_nil _ _ _
    · cases hu
  · rw [List.getElem?_replicate] at hu
    split at hu
    · cases hu; simp [blkOf] at hb
    · cases hu
/-! ### The rows of neighbours that the document's answer makes -/
def rowStep (a : Int) (r : List Int) (x : Ed) : List Int := if x.1 = a ∧ ¬ x.2 ∈ r then r ++ [x.2] else r
def rowOf (l : List Ed) (a : Int) : List Int := (normsE l).foldl (rowStep a) []
theorem rowOf_snoc (l : List Ed) (x : Ed) (a : Int) : rowOf (l ++ [x]) a = if x.1 = x.2 then rowOf l a else rowStep a (rowOf l a) (min x.1 x.2, max x.1 x.2) := by
  unfold rowOf
  rw [normsE_snoc]
  by_cases h : x.1 = x.2 <;> simp [h]
theorem rowFold_mem (a y : Int) : ∀ (l : List Ed) (r : List Int), y ∈ l.foldl (rowStep a) r ↔ y ∈ r ∨ (a, y) ∈ l
  | [], r => by simp
  | x :: l, r => by
    rw [List.foldl_cons, rowFold_mem a y l]
    unfold rowStep
    obtain ⟨p, q⟩ := x
    by_cases h : p = a ∧ ¬ q ∈ r
    · rw [if_pos h]
      obtain ⟨rfl, h2⟩ := h
      simp only [List.mem_append, List.mem_cons, List.not_mem_nil, or_false, Prod.mk.injEq, true_and]
      constructor
      · rintro ((h | h) | h)
        · exact .inl h
        · exact .inr (.inl h)
        · exact .inr (.inr h)
      · rintro (h | h | h)
        · exact .inl (.inl h)
        · exact .inl (.inr h)
        · exact .inr h
    · rw [if_neg h]
      simp only [List.mem_cons, Prod.mk.injEq]
      constructor
      · rintro (h | h)
        · exact .inl h
        · exact .inr (.inr h)
      · rintro (h1 | ⟨rfl, rfl⟩ | h1)
        · exact .inl h1
        · left
          by_cases hq : y ∈ r
          · exact hq
          · exact absurd ⟨rfl, hq⟩ h
        · exact .inr h1
theorem rowFold_nodup (a : Int) : ∀ (l : List Ed) (r : List Int), r.Nodup → (l.foldl (rowStep a) r).Nodup
  | [], r, h => h
  | x :: l, r, h => by
    rw [List.foldl_cons]
    refine rowFold_nodup a l _ ?_
    unfold rowStep
    split
    · rename_i hc
      rw [List.nodup_append]
      refine ⟨h, by simp, fun y hy z hz => ?_⟩
      simp at hz
      subst hz
      exact fun e => hc.2 (e ▸ hy)
    · exact h
theorem rowOf_mem (l : List Ed) (a y : Int) : y ∈ rowOf l a ↔ (a, y) ∈ normsE l := by simp [rowOf, rowFold_mem]
theorem rowOf_nodup (l : List Ed) (a : Int) : (rowOf l a).Nodup := rowFold_nodup a _ _ (by simp)
theorem sort_strict {l : List Int} (h : l.Nodup) : (sortI l).Pairwise (· < ·) := by
  have h1 := sortI_sorted l
  have h2 : (sortI l).Nodup := (sortI_perm l).nodup_iff.2 h
  exact (h1.and h2).imp (fun ⟨a, b⟩ => by omega)
/-- The edges, a vertex at a time. -/
def edgesTo (l : List Ed) (k : Nat) : List Ed := (List.range k).flatMap fun (a : Nat) => (sortI (rowOf l (a : Int))).map fun y => ((a : Int), y)
theorem edgesTo_succ (l : List Ed) (k : Nat) : edgesTo l (k + 1) = edgesTo l k ++ (sortI (rowOf l k)).map fun y => ((k : Int), y) := by
  simp [edgesTo, List.range_succ]
theorem edgesTo_mem (l : List Ed) (k : Nat) (x : Ed) : x ∈ edgesTo l k ↔ 0 ≤ x.1 ∧ x.1 < k ∧ x ∈ normsE l := by
  simp only [edgesTo, List.mem_flatMap, List.mem_range, List.mem_map]
  constructor
  · rintro ⟨a, ha, y, hy, rfl⟩
    rw [(sortI_perm _).mem_iff, rowOf_mem] at hy
    exact ⟨by simp, by simp; omega, hy⟩
  · rintro ⟨h1, h2, h3⟩
    refine ⟨x.1.toNat, by omega, x.2, ?_, ?_⟩
    · rw [(sortI_perm _).mem_iff, rowOf_mem, Int.toNat_of_nonneg h1]; exact h3
    · rw [Int.toNat_of_nonneg h1]
theorem edgesTo_strict (l : List Ed) : ∀ k, (edgesTo l k).Pairwise ltE
  | 0 => by simp [edgesTo]
  | k + 1 => by
    rw [edgesTo_succ, List.pairwise_append]
    refine ⟨edgesTo_strict l k, ?_, ?_⟩
    · rw [List.pairwise_map]
      exact (sort_strict (rowOf_nodup l k)).imp fun h => .inr ⟨rfl, h⟩
    · intro x hx y hy
      rw [edgesTo_mem] at hx
      rw [List.mem_map] at hy
      obtain ⟨z, _, rfl⟩ := hy
      exact .inl hx.2.1
theorem edgesTo_all {l : List Ed} {n : Int} (h : l.all (okEnds n) = true) : edgesTo l n.toNat = setE l := by
  refine strict_eq _ _ (edgesTo_strict l _) (setE_strict l) fun x => ?_
  rw [edgesTo_mem, setE_mem]
  constructor
  · exact fun h => h.2.2
  · intro hx
    have hx2 := hx
    rw [normsE_mem] at hx2
    obtain ⟨y, hy, _, rfl⟩ := hx2
    have := List.all_eq_true.1 h y hy
    simp [okEnds] at this
    refine ⟨?_, ?_, hx⟩ <;> dsimp only <;> omega
theorem rowOf_len (l : List Ed) (a : Int) : (rowOf l a).length ≤ l.length := by
  have h1 : ∀ (l : List Ed) (r : List Int), (l.foldl (rowStep a) r).length ≤ r.length + l.length := by
    intro l
    induction l with
    | nil => intro r; simp
    | cons x l ih =>
      intro r
      rw [List.foldl_cons]
      refine Nat.le_trans (ih _) ?_
      unfold rowStep
      split <;> simp <;> omega
  have h2 := h1 (normsE l) []
  have := normsE_len l
  unfold rowOf
  simp at h2; omega
theorem edgesTo_le (l : List Ed) (k : Nat) : ∀ m, (edgesTo l k).length ≤ (edgesTo l (k + m)).length
  | 0 => Nat.le_refl _
  | m + 1 => by
    have := edgesTo_le l k m
    rw [← Nat.add_assoc, edgesTo_succ, List.length_append]; omega
theorem edgesTo_len {l : List Ed} {n : Int} (h : l.all (okEnds n) = true) {k : Nat} (hk : k ≤ n.toNat) : (edgesTo l k).length ≤ l.length := by
  have h1 := edgesTo_le l k (n.toNat - k)
  rw [show k + (n.toNat - k) = n.toNat by omega, edgesTo_all h] at h1
  exact Nat.le_trans h1 (setE_le l)
end Go.Ai.G
namespace Go.Ai.G
open Go.Ai
set_option maxRecDepth 100000
set_option linter.unusedSimpArgs false
set_option linter.unusedVariables false
variable {A : AProg} {φ : Nat → Nat}
attribute [local simp ↓] getD_z getD_s hid_k hid_o hid_q hid_v PO_nil PO_none PO_grd PD_nil PD_none PD_grd PDO_N PDO_X PDO_call PDO_calli PDO_callv PStep_N PStep_X PStep_call PStep_calli PC_skip PC_lab
  PC_ret PC_exit PC_reg PC_draw PC_seq PC_block PC_loop PC_scope PC_cond thenC_norm thenC_ret thenC_exit blockC_norm blockC_ret blockC_exit loopC_norm loopC_ret loopC_exit endR_ret
  endR_norm
attribute [local simp] gz PDX_free PDX_eq PStep_callv resK_none resK_t resK_tt KNO_val KNO_new KNO_ite KNO_map KXO_some KXO_ite KVA_t KVA_f KG_skip KG_tt KG_ff KG_tf KG_ft KB_true KB_false KNOD_val
  KNOD_new KNOD_ite n_mv n_pick n_bin n_eqB n_eqN n_eqS n_un n_conv n_fadd n_faddV n_fld1 n_fldN n_idx n_idxA n_idxV n_idxAV n_ext n_lenS n_lenS0 n_lenV n_lenT n_lenA n_min n_max
  n_build n_mkfn n_slc n_slc0 n_slcV n_slcA n_load1 n_loadN n_load1V n_loadNV n_alloc n_box n_bsl n_mksl n_nilcP n_nilcV n_nilcI n_nilcF x_store x_clear0 x_clear b_add b_sub b_mul
  b_eql b_neq b_lss b_leq b_gtr b_geq b_and16 unV ntouch gather hide unhide evalOpd applyOuts int_bne int_beq ite_bool ite_int one_bool cells_bool one_int cells_int one_str cells_str
  one_nilp cells_nilp one_ptr cells_ptr one_nils cells_nils one_sl cells_sl one_nilf cells_nilf one_fn cells_fn one_nili cells_nili one_mp cells_mp one_nilm cells_nilm one_iface
  cells_iface one_vs cells_vs one_vp cells_vp cells_agg Nat.testBit setAt_1 setAt_2 closeds_nil closeds_cons closed_bool closed_int closed_str closed_nilp closed_nils closed_nilm
  closed_nilf closed_nili closed_agg closed_tup closed_vs closed_vp closed_iface closed_fn closeds_cI closeds_cE viewA_closed viewR_closed AV.scal AV.scal0 fillA repA part_bool
  part_int part_str part_nilp part_ptr part_nils part_sl part_nilm part_mp part_nilf part_fn part_nili part_iface part_agg part_vs part_vp viewA_sl1 vaSl_cells wrap_0 wrap_1 wrap_2
  wrap_m1 set_last get_last
theorem er2_0 (φ : Nat → Nat) : r2_0 φ = [
  ⟨0, .N (.alloc [.int .i64 0, .nils]), [], none, 0⟩,
  ⟨1, .N .mv, [.c (.int .i64 0)], none, 0⟩] := Eq.trans rfl rfl
theorem er2_1 (φ : Nat → Nat) : r2_1 φ = [
  ⟨0, .N .mv, [.n 0], none, 0⟩,
  ⟨1, .N (.bin .lss), [.l 0, .c (.int .i64 0)], none, 0⟩] := Eq.trans rfl rfl
theorem er2_2 (φ : Nat → Nat) : r2_2 φ = [
  ⟨0, .N (.build [.int .i64 0, .nils] []), [], none, 0⟩,
  ⟨1, .X (.store 2), [.n 2, .l 0], none, 0⟩,
  ⟨2, .N .mv, [.c (.int .i64 1)], none, 0⟩] := Eq.trans rfl rfl
theorem er2_3 (φ : Nat → Nat) : r2_3 φ = [
  ⟨0, .N .mv, [.n 0], none, 0⟩,
  ⟨1, .N (.bin .gtr), [.l 0, .c (.int .i64 1000)], none, 0⟩] := Eq.trans rfl rfl
theorem er2_4 (φ : Nat → Nat) : r2_4 φ = [
  ⟨0, .N (.build [.int .i64 0, .nils] []), [], none, 0⟩,
  ⟨1, .X (.store 2), [.n 2, .l 0], none, 0⟩,
  ⟨2, .N .mv, [.c (.int .i64 5)], none, 0⟩] := Eq.trans rfl rfl
theorem er2_5 (φ : Nat → Nat) : r2_5 φ = [
  ⟨0, .N .mv, [.n 0], none, 0⟩,
  ⟨1, .N (.mksl [.nils] 1 24), [.l 0, .l 0], none, 0⟩,
  ⟨2, .N .mv, [.l 0], none, 0⟩] := Eq.trans rfl rfl
theorem er2_6 (φ : Nat → Nat) : r2_6 φ = [
  ⟨0, .N .mv, [.c (.int .i64 0)], none, 0⟩] := Eq.trans rfl rfl
theorem er2_7 (φ : Nat → Nat) : r2_7 φ = [
  ⟨0, .N .mv, [.n 5], none, 0⟩,
  ⟨1, .N .mv, [.n 1], none, 0⟩,
  ⟨2, .N .lenS, [.l 0], none, 0⟩,
  ⟨3, .N (.bin .lss), [.l 2, .l 0], none, 0⟩] := Eq.trans rfl rfl
theorem er2_8 (φ : Nat → Nat) : r2_8 φ = [
  ⟨0, .N .mv, [.n 1], none, 0⟩,
  ⟨1, .N .mv, [.n 5], none, 0⟩,
  ⟨2, .N (.idx 2), [.l 1, .l 0], none, 0⟩,
  ⟨3, .N (.fadd 0), [.l 0], none, 0⟩,
  ⟨4, .N .load1, [.l 0], none, 0⟩,
  ⟨5, .N .mv, [.l 0], none, 0⟩] := Eq.trans rfl rfl
theorem er2_9 (φ : Nat → Nat) : r2_9 φ = [
  ⟨0, .N .mv, [.n 1], none, 0⟩,
  ⟨1, .N .mv, [.n 5], none, 0⟩,
  ⟨2, .N (.idx 2), [.l 1, .l 0], none, 0⟩,
  ⟨3, .N (.fadd 1), [.l 0], none, 0⟩,
  ⟨4, .N .load1, [.l 0], none, 0⟩,
  ⟨5, .N .mv, [.l 0], none, 0⟩] := Eq.trans rfl rfl
theorem er2_10 (φ : Nat → Nat) : r2_10 φ = [
  ⟨0, .N .mv, [.n 6], none, 0⟩,
  ⟨1, .N (.bin .lss), [.l 0, .c (.int .i64 0)], none, 0⟩,
  ⟨2, .N .mv, [.l 0], none, 0⟩,
  ⟨3, .N .mv, [.n 7], some (.l 0, false), 0⟩,
  ⟨4, .N (.bin .lss), [.l 0, .c (.int .i64 0)], some (.l 1, false), 0⟩,
  ⟨5, .N .pick, [.l 2, .c (.bool true), .l 0], none, 0⟩,
  ⟨6, .N .mv, [.l 0], none, 0⟩,
  ⟨7, .N .mv, [.n 6], some (.l 0, false), 0⟩,
  ⟨8, .N .mv, [.n 0], some (.l 1, false), 0⟩,
  ⟨9, .N (.bin .geq), [.l 1, .l 0], some (.l 2, false), 0⟩,
  ⟨10, .N .pick, [.l 3, .c (.bool true), .l 0], none, 0⟩,
  ⟨11, .N .mv, [.l 0], none, 0⟩,
  ⟨12, .N .mv, [.n 7], some (.l 0, false), 0⟩,
  ⟨13, .N .mv, [.n 0], some (.l 1, false), 0⟩,
  ⟨14, .N (.bin .geq), [.l 1, .l 0], some (.l 2, false), 0⟩,
  ⟨15, .N .pick, [.l 3, .c (.bool true), .l 0], none, 0⟩] := Eq.trans rfl rfl
theorem er2_11 (φ : Nat → Nat) : r2_11 φ = [
  ⟨0, .N (.build [.int .i64 0, .nils] []), [], none, 0⟩,
  ⟨1, .X (.store 2), [.n 2, .l 0], none, 0⟩,
  ⟨2, .N .mv, [.c (.int .i64 4)], none, 0⟩] := Eq.trans rfl rfl
theorem er2_12 (φ : Nat → Nat) : r2_12 φ = [
  ⟨0, .N .mv, [.n 6], none, 0⟩,
  ⟨1, .N .mv, [.n 7], none, 0⟩,
  ⟨2, .N .min, [.l 1, .l 0], none, 0⟩,
  ⟨3, .N .mv, [.l 0], none, 0⟩] := Eq.trans rfl rfl
theorem er2_13 (φ : Nat → Nat) : r2_13 φ = [
  ⟨0, .N .mv, [.n 6], none, 0⟩,
  ⟨1, .N .mv, [.n 7], none, 0⟩,
  ⟨2, .N (.bin .neq), [.l 1, .l 0], none, 0⟩,
  ⟨3, .N .mv, [.l 0], none, 0⟩,
  ⟨4, .N .mv, [.n 4], some (.l 0, true), 0⟩,
  ⟨5, .N .mv, [.n 8], some (.l 1, true), 0⟩,
  ⟨6, .N (.idx 1), [.l 1, .l 0], some (.l 2, true), 0⟩,
  ⟨7, .N .load1, [.l 0], some (.l 3, true), 0⟩,
  ⟨8, .N .mv, [.n 6], some (.l 4, true), 0⟩,
  ⟨9, .N .mv, [.n 7], some (.l 5, true), 0⟩,
  ⟨10, .N .max, [.l 1, .l 0], some (.l 6, true), 0⟩,
  ⟨11, .calli true (φ 25), [.l 3, .l 0], some (.l 7, true), 0⟩,
  ⟨12, .N (.un .not), [.l 0], some (.l 8, true), 0⟩,
  ⟨13, .N .pick, [.l 9, .l 0, .c (.bool false)], none, 0⟩] := Eq.trans rfl rfl
theorem er2_14 (φ : Nat → Nat) : r2_14 φ = [
  ⟨0, .N .mv, [.n 4], none, 0⟩,
  ⟨1, .N .mv, [.n 8], none, 0⟩,
  ⟨2, .N .mv, [.n 4], none, 0⟩,
  ⟨3, .N .mv, [.n 8], none, 0⟩,
  ⟨4, .N (.idx 1), [.l 1, .l 0], none, 0⟩,
  ⟨5, .N .load1, [.l 0], none, 0⟩,
  ⟨6, .N .mv, [.n 6], none, 0⟩,
  ⟨7, .N .mv, [.n 7], none, 0⟩,
  ⟨8, .N .max, [.l 1, .l 0], none, 0⟩,
  ⟨9, .N (.bsl [.int .i64 0] 1 1 [(0, 1)]), [.l 0], none, 0⟩,
  ⟨10, .X (.app 1 8), [.l 4, .l 0], none, 0⟩,
  ⟨11, .N (.idx 1), [.l 10, .l 9], none, 0⟩,
  ⟨12, .X (.store 1), [.l 0, .l 1], none, 0⟩] := Eq.trans rfl rfl
theorem er2_15 (φ : Nat → Nat) : r2_15 φ = [
  ⟨0, .N .mv, [.n 5], none, 0⟩,
  ⟨1, .N (.bin .add), [.l 0, .c (.int .i64 1)], none, 0⟩,
  ⟨2, .N .mv, [.l 0], none, 0⟩] := Eq.trans rfl rfl
theorem er2_17 (φ : Nat → Nat) : r2_17 φ = [
  ⟨0, .N .mv, [.n 0], none, 0⟩,
  ⟨1, .N (.build [.int .i64 0, .nils] [(0, 1)]), [.l 0], none, 0⟩,
  ⟨2, .N (.alloc [.int .i64 0, .nils]), [], none, 0⟩,
  ⟨3, .X (.store 2), [.l 0, .l 1], none, 0⟩] := Eq.trans rfl rfl
theorem er2_18 (φ : Nat → Nat) : r2_18 φ = [
  ⟨0, .N .mv, [.c (.int .i64 0)], none, 0⟩] := Eq.trans rfl rfl
theorem er2_19 (φ : Nat → Nat) : r2_19 φ = [
  ⟨0, .N .mv, [.n 10], none, 0⟩,
  ⟨1, .N .mv, [.n 0], none, 0⟩,
  ⟨2, .N (.bin .lss), [.l 1, .l 0], none, 0⟩] := Eq.trans rfl rfl
theorem er2_20 (φ : Nat → Nat) : r2_20 φ = [
  ⟨0, .N .mv, [.n 4], none, 0⟩,
  ⟨1, .N .mv, [.n 10], none, 0⟩,
  ⟨2, .N (.idx 1), [.l 1, .l 0], none, 0⟩,
  ⟨3, .N .load1, [.l 0], none, 0⟩,
  ⟨4, .calli false (φ 30), [.l 0], none, 0⟩,
  ⟨5, .N .mv, [.l 0], none, 0⟩] := Eq.trans rfl rfl
theorem er2_21 (φ : Nat → Nat) : r2_21 φ = [
  ⟨0, .N .mv, [.c (.int .i64 0)], none, 0⟩] := Eq.trans rfl rfl
theorem er2_22 (φ : Nat → Nat) : r2_22 φ = [
  ⟨0, .N .mv, [.n 12], none, 0⟩,
  ⟨1, .N .mv, [.n 11], none, 0⟩,
  ⟨2, .N .lenS, [.l 0], none, 0⟩,
  ⟨3, .N (.bin .lss), [.l 2, .l 0], none, 0⟩] := Eq.trans rfl rfl
theorem er2_23 (φ : Nat → Nat) : r2_23 φ = [
  ⟨0, .N (.fadd 1), [.n 9], none, 0⟩,
  ⟨1, .N .load1, [.l 0], none, 1⟩,
  ⟨2, .N .mv, [.n 10], none, 0⟩,
  ⟨3, .N .mv, [.n 11], none, 0⟩,
  ⟨4, .N .mv, [.n 12], none, 0⟩,
  ⟨5, .N (.idx 1), [.l 1, .l 0], none, 24⟩,
  ⟨6, .N .load1, [.l 0], none, 56⟩,
  ⟨7, .N (.build [.int .i64 0, .int .i64 0] [(0, 1), (1, 1)]), [.l 4, .l 0], none, 124⟩,
  ⟨8, .N (.bsl [.int .i64 0, .int .i64 0] 1 2 [(0, 2)]), [.l 0], none, 252⟩,
  ⟨9, .X (.app 2 16), [.l 7, .l 0], none, 511⟩,
  ⟨10, .N (.fadd 1), [.n 9], none, 1023⟩,
  ⟨11, .X (.store 1), [.l 0, .l 1], none, 2047⟩] := Eq.trans rfl rfl
theorem er2_24 (φ : Nat → Nat) : r2_24 φ = [
  ⟨0, .N .mv, [.n 12], none, 0⟩,
  ⟨1, .N (.bin .add), [.l 0, .c (.int .i64 1)], none, 0⟩,
  ⟨2, .N .mv, [.l 0], none, 0⟩] := Eq.trans rfl rfl
theorem er2_26 (φ : Nat → Nat) : r2_26 φ = [
  ⟨0, .N .mv, [.n 10], none, 0⟩,
  ⟨1, .N (.bin .add), [.l 0, .c (.int .i64 1)], none, 0⟩,
  ⟨2, .N .mv, [.l 0], none, 0⟩] := Eq.trans rfl rfl
theorem er2_28 (φ : Nat → Nat) : r2_28 φ = [
  ⟨0, .N (.fadd 1), [.n 9], none, 0⟩,
  ⟨1, .N .load1, [.l 0], none, 0⟩,
  ⟨2, .N .lenS, [.l 0], none, 0⟩,
  ⟨3, .N (.bin .gtr), [.l 0, .c (.int .i64 4000)], none, 0⟩] := Eq.trans rfl rfl
theorem er2_29 (φ : Nat → Nat) : r2_29 φ = [
  ⟨0, .N (.build [.int .i64 0, .nils] []), [], none, 0⟩,
  ⟨1, .X (.store 2), [.n 2, .l 0], none, 0⟩,
  ⟨2, .N .mv, [.c (.int .i64 5)], none, 0⟩] := Eq.trans rfl rfl
theorem er2_30 (φ : Nat → Nat) : r2_30 φ = [
  ⟨0, .N (.loadN 2), [.n 9], none, 0⟩,
  ⟨1, .X (.store 2), [.n 2, .l 0], none, 0⟩,
  ⟨2, .N .mv, [.c (.int .i64 0)], none, 0⟩] := Eq.trans rfl rfl
set_option maxHeartbeats 4000000 in
theorem w_RNormal (h : Has A (φ 2) (f2 φ)) (hin : Has A (φ 25) (f25 φ)) (hso : Has A (φ 30) (f30 φ)) (n : Int) (v : AV) (l : List Ed) (hv : IsE v l) (hn : l.length < 1000000000) :
    PVal A (φ 2) [.int .i64 n, v] (nR n l) := by
  refine pval_has h rfl ?_
  simp only [l2_16, l2_25, l2_27, b2, f2]
  have hlen := hv.len
  by_cases h0 : n < 0
  · simp [-List.getD_eq_getElem?_getD, -Int.ofNat_toNat, -getElem?_pos, er2_0, er2_1, er2_2, er2_3, er2_4, er2_5, er2_6, er2_7, er2_8, er2_9, er2_10, er2_11, er2_12, er2_13, er2_14, er2_15, er2_17, er2_18, er2_19, er2_20, er2_21, er2_22, er2_23, er2_24, er2_26, er2_28, er2_29, er2_30, h0, resK, resVs, resV, pack, viewG0, normalE, rv]
  by_cases h1 : 1000 < n
  · simp [-List.getD_eq_getElem?_getD, -Int.ofNat_toNat, -getElem?_pos, er2_0, er2_1, er2_2, er2_3, er2_4, er2_5, er2_6, er2_7, er2_8, er2_9, er2_10, er2_11, er2_12, er2_13, er2_14, er2_15, er2_17, er2_18, er2_19, er2_20, er2_21, er2_22, er2_23, er2_24, er2_26, er2_28, er2_29, er2_30, h0, h1, resK, resVs, resV, pack, viewG0, normalE, rv]
  have c1 : 0 ≤ n := by omega
  have c2 : n ≤ 4294967296 := by omega
  have c3 : n * 24 ≤ 140737488355328 := by omega
  simp [-List.getD_eq_getElem?_getD, -Int.ofNat_toNat, -getElem?_pos, er2_0, er2_1, er2_2, er2_3, er2_4, er2_5, er2_6, er2_7, er2_8, er2_9, er2_10, er2_11, er2_12, er2_13, er2_14, er2_15, er2_17, er2_18, er2_19, er2_20, er2_21, er2_22, er2_23, er2_24, er2_26, er2_28, er2_29, er2_30, h0, h1, hlen, c1, c2, c3, repA_repl]
  refine pc_loopI (fun m st => ∃ (i : Nat) (p6 p7 p8 p15 p16 p17 : AV) (us : List AV) (H : Heap), i + m = l.length ∧ (∀ x ∈ l.take i, okEnds n x = true) ∧ H[0]? = some (.cells 0 false [.int .i64 0, .nils]) ∧ H[1]? = some (.cells 0 false us) ∧
    OwnRs 2 H us ((List.range n.toNat).map fun (a : Nat) => rowOf (l.take i) (a : Int)) ∧
    st = ([.int .i64 n, v, .ptr 0 0 0, .int .i64 0, .sl 1 0 0 n.toNat 1 n.toNat true, .int .i64 i, p6, p7, p8, .un, .un, .un, .un, .bool false, .bool false, p15, p16, p17, .un, .un, .un], H)) l.length
    ⟨0, _, _, _, _, _, _, _, _, by simp, by simp, rfl, rfl, ownRs_new _ _ _ _ (fun i _ => by simp [rowOf, normsE]), rfl⟩ ?_
  rintro m st ⟨i, p6, p7, p8, p15, p16, p17, us, H, hi, hok, e0, e1, hown, rfl⟩
  have hul : us.length = n.toNat := by rw [hown.len]; simp
  have hH2 : 2 ≤ H.length := lt_of_get e1
  by_cases hlt : i < l.length
  · obtain ⟨i1, g1, g2, _, _⟩ := hv.at hlt
    have hw := wrap1 hlt (by omega)
    have m1 := minV_i l[i].1 l[i].2
    have m2 := maxV_i l[i].1 l[i].2
    have hset : ∀ z, (H.set 0 z)[0]? = some z := fun z => List.getElem?_set_self (lt_of_get e0)
    have hle2 : l.take (i + 1) = l.take i ++ [l[i]] := List.take_succ_eq_append_getElem hlt
    have hbad : okEnds n l[i] = false → normalE n l = (0, [], 4) := by
      intro hf
      have hno : l.all (okEnds n) = false := by rw [List.all_eq_false]; exact ⟨l[i], List.getElem_mem hlt, by simp [hf]⟩
      simp only [normalE, if_neg h0, if_neg (show ¬ n > 1000 from h1), hno, Bool.false_eq_true, if_false]
    have hoke : okEnds n l[i] = (decide (0 ≤ min l[i].1 l[i].2) && decide (max l[i].1 l[i].2 < n)) := rfl
    have hsn := fun a => rowOf_snoc (l.take i) l[i] a
    rw [← hle2] at hsn
    generalize hxx : l[i].1 = x at *
    generalize hyy : l[i].2 = y at *
    by_cases b1 : x < 0
    · simp [-List.getD_eq_getElem?_getD, -Int.ofNat_toNat, -getElem?_pos, er2_0, er2_1, er2_2, er2_3, er2_4, er2_5, er2_6, er2_7, er2_8, er2_9, er2_10, er2_11, er2_12, er2_13, er2_14, er2_15, er2_17, er2_18, er2_19, er2_20, er2_21, er2_22, er2_23, er2_24, er2_26, er2_28, er2_29, er2_30, hlen, hlt, i1, g1, g2, b1, e0, resK, resVs, resV, pack, hset, viewG0, hbad (by rw [hoke]; simp; omega), rv]
    by_cases b2 : y < 0
    · simp [-List.getD_eq_getElem?_getD, -Int.ofNat_toNat, -getElem?_pos, er2_0, er2_1, er2_2, er2_3, er2_4, er2_5, er2_6, er2_7, er2_8, er2_9, er2_10, er2_11, er2_12, er2_13, er2_14, er2_15, er2_17, er2_18, er2_19, er2_20, er2_21, er2_22, er2_23, er2_24, er2_26, er2_28, er2_29, er2_30, hlen, hlt, i1, g1, g2, b1, b2, e0, resK, resVs, resV, pack, hset, viewG0, hbad (by rw [hoke]; simp; omega), rv]
    by_cases b3 : n ≤ x
    · simp [-List.getD_eq_getElem?_getD, -Int.ofNat_toNat, -getElem?_pos, er2_0, er2_1, er2_2, er2_3, er2_4, er2_5, er2_6, er2_7, er2_8, er2_9, er2_10, er2_11, er2_12, er2_13, er2_14, er2_15, er2_17, er2_18, er2_19, er2_20, er2_21, er2_22, er2_23, er2_24, er2_26, er2_28, er2_29, er2_30, hlen, hlt, i1, g1, g2, b1, b2, b3, e0, resK, resVs, resV, pack, hset, viewG0, hbad (by rw [hoke]; simp; omega), rv]
    by_cases b4 : n ≤ y
    · simp [-List.getD_eq_getElem?_getD, -Int.ofNat_toNat, -getElem?_pos, er2_0, er2_1, er2_2, er2_3, er2_4, er2_5, er2_6, er2_7, er2_8, er2_9, er2_10, er2_11, er2_12, er2_13, er2_14, er2_15, er2_17, er2_18, er2_19, er2_20, er2_21, er2_22, er2_23, er2_24, er2_26, er2_28, er2_29, er2_30, hlen, hlt, i1, g1, g2, b1, b2, b3, b4, e0, resK, resVs, resV, pack, hset, viewG0, hbad (by rw [hoke]; simp; omega), rv]
    have hok2 : ∀ x ∈ l.take (i + 1), okEnds n x = true := by
      intro z hz
      rw [hle2] at hz
      rcases List.mem_append.1 hz with h | h
      · exact hok z h
      · simp at h; subst h; rw [hoke, decide_eq_true (by omega), decide_eq_true (by omega)]; rfl
    by_cases hab : x = y
    · subst hab
      simp [-List.getD_eq_getElem?_getD, -Int.ofNat_toNat, -getElem?_pos, er2_0, er2_1, er2_2, er2_3, er2_4, er2_5, er2_6, er2_7, er2_8, er2_9, er2_10, er2_11, er2_12, er2_13, er2_14, er2_15, er2_17, er2_18, er2_19, er2_20, er2_21, er2_22, er2_23, er2_24, er2_26, er2_28, er2_29, er2_30, hlen, hlt, i1, g1, g2, b1, b2, b3, b4, foldV, m1, m2, hw]
      refine next_mk (m - 1) (by omega) ⟨i + 1, _, _, _, _, _, _, us, H, by omega, hok2, e0, e1, ?_, rfl⟩
      have : (fun a : Nat => rowOf (l.take (i + 1)) (a : Int)) = fun a : Nat => rowOf (l.take i) (a : Int) := by funext a; rw [hsn, if_pos rfl]
      rw [this]; exact hown
    · obtain ⟨k, hk⟩ : ∃ k : Nat, min x y = (k : Int) := ⟨(min x y).toNat, by omega⟩
      have hkn : k < n.toNat := by omega
      have hkn2 : (k : Int) < (n.toNat : Nat) := by omega
      generalize max x y = mx at *
      rw [hk] at m1
      obtain ⟨u, hu⟩ : ∃ u, us[k]? = some u := ⟨us[k]'(by omega), List.getElem?_eq_getElem _⟩
      have hu2 : us[k]'(by omega) = u := (List.getElem?_eq_some_iff.1 hu).2
      have hrw : ((List.range n.toNat).map fun (a : Nat) => rowOf (l.take i) (a : Int))[k]? = some (rowOf (l.take i) (k : Int)) := by simp [hkn]
      have hou := hown.own k u _ hu hrw
      have hrl : (rowOf (l.take i) (k : Int)).length < 1000000000000 := by have := rowOf_len (l.take i) (k : Int); simp at this; omega
      obtain ⟨Hx, hva, _, _⟩ := Own.viewA (pre := []) (post := [.int .i64 mx]) hou (closeds_cI _) rfl rfl
      simp only [List.nil_append] at hva
      have hinE := (w_In hin _ (rowOf (l.take i) (k : Int)) mx (isI_r _) hrl).eq
      have hmapset : (fun a : Nat => rowOf (l.take (i + 1)) (a : Int)) = fun a : Nat => if a = k then rowStep (k : Int) (rowOf (l.take i) (k : Int)) ((k : Int), mx) else rowOf (l.take i) (a : Int) := by
        funext a
        rw [hsn, if_neg hab, hk]
        by_cases e : a = k
        · subst e; rw [if_pos rfl]
        · rw [if_neg e]; unfold rowStep
          rw [if_neg]; rintro ⟨h, _⟩; dsimp only at h; omega
      by_cases hmem : mx ∈ rowOf (l.take i) (k : Int)
      · simp [-List.getD_eq_getElem?_getD, -Int.ofNat_toNat, -getElem?_pos, er2_0, er2_1, er2_2, er2_3, er2_4, er2_5, er2_6, er2_7, er2_8, er2_9, er2_10, er2_11, er2_12, er2_13, er2_14, er2_15, er2_17, er2_18, er2_19, er2_20, er2_21, er2_22, er2_23, er2_24, er2_26, er2_28, er2_29, er2_30, hlen, hlt, i1, g1, g2, b1, b2, b3, b4, hab, foldV, m1, m2, hw, hkn, e1, hu, hu2, hva, hinE, hmem]
        refine next_mk (m - 1) (by omega) ⟨i + 1, _, _, _, _, _, _, us, H, by omega, hok2, e0, e1, ?_, rfl⟩
        rw [hmapset]
        have : (fun a : Nat => if a = k then rowStep (k : Int) (rowOf (l.take i) (k : Int)) ((k : Int), mx) else rowOf (l.take i) (a : Int)) = fun a : Nat => rowOf (l.take i) (a : Int) := by
          funext a
          by_cases e : a = k
          · subst e; rw [if_pos rfl]; unfold rowStep; rw [if_neg (fun h => h.2 hmem)]
          · rw [if_neg e]
        rw [this]; exact hown
      · obtain ⟨u', H2, x1, x2, x3, x4, x5, x6⟩ := OwnI.app1 hou mx hH2 hrl
        have e1' : H2[1]? = some (.cells 0 false us) := by rw [x3 1 (by omega)]; exact e1
        have e0' : H2[0]? = some (.cells 0 false [.int .i64 0, .nils]) := by rw [x3 0 (by omega)]; exact e0
        have hone : u'.one = true := Own.one x2
        have hcell : u'.cells = [u'] := Own.cells x2
        have hsa := setAt_one (c := us) (o := k) u' (by omega)
        simp [-List.getD_eq_getElem?_getD, -Int.ofNat_toNat, -getElem?_pos, er2_0, er2_1, er2_2, er2_3, er2_4, er2_5, er2_6, er2_7, er2_8, er2_9, er2_10, er2_11, er2_12, er2_13, er2_14, er2_15, er2_17, er2_18, er2_19, er2_20, er2_21, er2_22, er2_23, er2_24, er2_26, er2_28, er2_29, er2_30, hlen, hlt, i1, g1, g2, b1, b2, b3, b4, hab, foldV, m1, m2, hw, hkn, e1, e1', hu, hu2, hva, hinE, hmem, x1, hone, hcell, hsa, hul]
        refine ⟨by omega, ?_⟩
        refine next_mk (m - 1) (by omega) ⟨i + 1, _, _, _, _, _, _, us.set k u', H2.set 1 (.cells 0 false (us.set k u')), by omega, hok2, ?_, List.getElem?_set_self (lt_of_get e1'), ?_, rfl⟩
        · rw [List.getElem?_set_ne (by omega)]; exact e0'
        · have hg := hown.grow hu hrw x2 x5 x6
          rw [hmapset]
          have : (List.range n.toNat).map (fun a : Nat => if a = k then rowStep (k : Int) (rowOf (l.take i) (k : Int)) ((k : Int), mx) else rowOf (l.take i) (a : Int)) = ((List.range n.toNat).map fun (a : Nat) => rowOf (l.take i) (a : Int)).set k (rowOf (l.take i) (k : Int) ++ [mx]) := by
            apply List.ext_getElem?
            intro j
            rw [List.getElem?_set]
            by_cases e : k = j
            · subst e
              rw [if_pos rfl, if_pos (by simpa using hkn)]
              simp [hkn, rowStep, hmem]
            · rw [if_neg e]
              by_cases hj : j < n.toNat
              · simp [hj]; intro e'; omega
              · simp [hj]
          rw [this]
          exact hg.keep fun b _ hb => List.getElem?_set_ne (by omega)
  · have hil : i = l.length := by omega
    rw [hil, List.take_length] at hok hown
    have hall : l.all (okEnds n) = true := List.all_eq_true.2 hok
    simp [-List.getD_eq_getElem?_getD, -Int.ofNat_toNat, -getElem?_pos, er2_0, er2_1, er2_2, er2_3, er2_4, er2_5, er2_6, er2_7, er2_8, er2_9, er2_10, er2_11, er2_12, er2_13, er2_14, er2_15, er2_17, er2_18, hlen, hlt]
    have hgb : ∀ (j : Nat) u b, us[j]? = some u → blkOf u = some b → 2 ≤ b ∧ b < H.length := by
      intro j u b hu hb
      have hj : j < n.toNat := by rw [← hul]; exact (List.getElem?_eq_some_iff.1 hu).1
      exact Own.blk (hown.own j u _ hu (by simp [hj]; rfl)) hb
    have hsep := hown.sep
    have hrows : ∀ (j : Nat) u, us[j]? = some u → OwnI true 2 H u (rowOf l (j : Int)) := by
      intro j u hu
      have hj : j < n.toNat := by rw [← hul]; exact (List.getElem?_eq_some_iff.1 hu).1
      exact hown.own j u _ hu (by simp [hj])
    have hrl : ∀ a : Nat, (rowOf l (a : Int)).length < 1000000000000 := fun a => by have := rowOf_len l (a : Int); omega
    generalize hgbe : H.length = gb at *
    refine pc_loopI (fun m st => ∃ (a : Nat) (ev p11 p12 p18 p19 : AV) (H : Heap), a + m = n.toNat ∧ H[0]? = some (.cells 0 false [.int .i64 0, .nils]) ∧ H[1]? = some (.cells 0 false us) ∧ H[gb]? = some (.cells 0 false [.int .i64 n, ev]) ∧
      OwnE true (gb + 1) H ev (edgesTo l a) ∧ (∀ (j : Nat) u, a ≤ j → us[j]? = some u → OwnI true 2 H u (rowOf l (j : Int))) ∧
      st = ([.int .i64 n, v, .ptr 0 0 0, .int .i64 0, .sl 1 0 0 n.toNat 1 n.toNat true, .int .i64 i, p6, p7, p8, .ptr gb 0 0, .int .i64 a, p11, p12, .bool false, .bool false, .bool false, p16, p17, p18, p19, .un], H)) n.toNat
      ⟨0, .nils, _, _, _, _, _, by simp, get_more _ e0, get_more _ e1, by rw [← hgbe]; exact get_last _ _, own_nil _ _ _, fun j u _ hu => Own.more (hrows j u hu) _, rfl⟩ ?_
    clear e0 e1 hown hrows hgbe
    rintro m st ⟨a, ev, p11, p12, p18, p19, H, ha, e0, e1, eg, hev, hrows, rfl⟩
    by_cases halt : a < n.toNat
    · obtain ⟨u, hu⟩ : ∃ u, us[a]? = some u := ⟨us[a]'(by omega), List.getElem?_eq_getElem _⟩
      have hu2 : us[a]'(by omega) = u := (List.getElem?_eq_some_iff.1 hu).2
      have hou := hrows a u (Nat.le_refl _) hu
      obtain ⟨H2, hva, _, hk2⟩ := OwnI.viewA1 hou
      have hsE := (w_Sorted hso _ (rowOf l (a : Int)) (isI_r _) (hrl a)).eq
      have halt' : (a : Int) < n := by omega
      have hw := wrap1 halt (by omega)
      have hbu : ∀ b, blkOf u = some b → 2 ≤ b ∧ b < gb := fun b hb => hgb a u b hu hb
      have e0' : H2[0]? = some (.cells 0 false [.int .i64 0, .nils]) := by rw [hk2 0 (fun h => by have := hbu 0 h; omega)]; exact e0
      have e1' : H2[1]? = some (.cells 0 false us) := by rw [hk2 1 (fun h => by have := hbu 1 h; omega)]; exact e1
      have eg' : H2[gb]? = some (.cells 0 false [.int .i64 n, ev]) := by rw [hk2 gb (fun h => by have := hbu gb h; omega)]; exact eg
      have hev' : OwnE true (gb + 1) H2 ev (edgesTo l a) := Own.keep hev fun b hb hbe => hk2 b (fun h => by have := hbu b h; have := (Own.blk hev hbe).1; omega)
      have hrows' : ∀ (j : Nat) u', a + 1 ≤ j → us[j]? = some u' → OwnI true 2 H2 u' (rowOf l (j : Int)) := fun j u' hj hu' => Own.keep (hrows j u' (by omega) hu') fun b hb hbe => hk2 b (fun h => hsep a j u u' b (by omega) hu hu' h hbe)
      simp [-List.getD_eq_getElem?_getD, -Int.ofNat_toNat, -getElem?_pos, er2_0, er2_1, er2_2, er2_3, er2_4, er2_5, er2_6, er2_7, er2_8, er2_9, er2_10, er2_11, er2_12, er2_13, er2_14, er2_15, er2_17, er2_18, er2_19, er2_20, er2_21, halt, halt', e1, hu, hu2, hva, hsE]
      have hsl : (sortI (rowOf l (a : Int))).length < 1000000000000 := by rw [sortI_len]; exact hrl a
      have hvr := isI_v (sortI (rowOf l (a : Int)))
      have hlr := hvr.len
      have hes := edgesTo_succ l a
      have hlen2 := edgesTo_len hall (k := a + 1) (by omega)
      rw [hes] at hlen2
      simp at hlen2
      generalize hrow : sortI (rowOf l (a : Int)) = row at *
      refine pc_loopI (fun m st => ∃ (k : Nat) (ev p19 : AV) (H : Heap), k + m = row.length ∧ H[0]? = some (.cells 0 false [.int .i64 0, .nils]) ∧ H[1]? = some (.cells 0 false us) ∧ H[gb]? = some (.cells 0 false [.int .i64 n, ev]) ∧
        OwnE true (gb + 1) H ev (edgesTo l a ++ (row.take k).map fun y => ((a : Int), y)) ∧ (∀ (j : Nat) u, a + 1 ≤ j → us[j]? = some u → OwnI true 2 H u (rowOf l (j : Int))) ∧
        st = ([.int .i64 n, v, .ptr 0 0 0, .int .i64 0, .sl 1 0 0 n.toNat 1 n.toNat true, .int .i64 i, p6, p7, p8, .ptr gb 0 0, .int .i64 a, vI row, .int .i64 k, .bool false, .bool false, .bool false, p16, p17, .bool true, p19, .un], H)) row.length
        ⟨0, ev, _, H2, by simp, e0', e1', eg', by simpa using hev', hrows', rfl⟩ ?_
      clear e0 e1 eg hev hrows e0' e1' eg' hev' hrows' hva hk2 hou
      rintro m2 st ⟨k, ev, p19, H, hk, e0, e1, eg, hev, hrows, rfl⟩
      by_cases hkl : k < row.length
      · obtain ⟨i2, g2⟩ := hvr.at hkl
        have hw2 := wrap1 hkl (by omega)
        have l0 := lt_of_get e0; have l1 := lt_of_get e1; have lg := lt_of_get eg
        have hsm : (edgesTo l a ++ (row.take k).map fun y => ((a : Int), y)).length < 1000000000000 := by simp; omega
        obtain ⟨ev', H3, x1, x2, x3, x4, x5, x6⟩ := OwnE.app1 hev (a : Int) row[k] lg hsm
        have hbe : ∀ b, b ≤ gb → b < H.length → H3[b]? = H[b]? := fun b hb hbl => x3 b (by omega)
        have eg3 : H3[gb]? = some (.cells 0 false [.int .i64 n, ev]) := by rw [hbe gb (by omega) lg]; exact eg
        have hone : ev'.one = true := Own.one x2
        have hcell : ev'.cells = [ev'] := Own.cells x2
        simp [-List.getD_eq_getElem?_getD, -Int.ofNat_toNat, -getElem?_pos, er2_0, er2_1, er2_2, er2_3, er2_4, er2_5, er2_6, er2_7, er2_8, er2_9, er2_10, er2_11, er2_12, er2_13, er2_14, er2_15, er2_17, er2_18, er2_19, er2_20, er2_21, er2_22, er2_23, er2_24, hkl, i2, g2, eg, eg3, x1, hw2, hone, hcell, setAt_one]
        refine next_mk (m2 - 1) (by omega) ⟨k + 1, ev', _, H3.set gb (.cells 0 false [.int .i64 n, ev']), by omega, ?_, ?_, List.getElem?_set_self (lt_of_get eg3), ?_, fun j u hj hu => ?_, rfl⟩
        · rw [List.getElem?_set_ne (by omega), hbe 0 (by omega) l0]; exact e0
        · rw [List.getElem?_set_ne (by omega), hbe 1 (by omega) l1]; exact e1
        · rw [List.take_succ_eq_append_getElem hkl, List.map_append, ← List.append_assoc]
          exact Own.keep x2 fun b hb hbe' => List.getElem?_set_ne (by have := (Own.blk x2 hbe').1; omega)
        · exact Own.keep (hrows j u hj hu) fun b hb hbu => by
            have := hgb j u b hu hbu
            rw [List.getElem?_set_ne (by omega), hbe b (by omega) hb]
      · have hkr : row.take k = row := List.take_of_length_le (by omega)
        rw [hkr, ← hes] at hev
        simp [-List.getD_eq_getElem?_getD, -Int.ofNat_toNat, -getElem?_pos, er2_0, er2_1, er2_2, er2_3, er2_4, er2_5, er2_6, er2_7, er2_8, er2_9, er2_10, er2_11, er2_12, er2_13, er2_14, er2_15, er2_17, er2_18, er2_19, er2_20, er2_21, er2_22, er2_23, er2_24, er2_26, hkl, hw]
        exact next_mk (m - 1) (by omega) ⟨a + 1, ev, _, _, _, _, H, by omega, e0, e1, eg, hev, hrows, rfl⟩
    · have han : a = n.toNat := by omega
      rw [han, edgesTo_all hall] at hev
      have hnn : ¬ (a : Int) < n := by omega
      have hel := Own.len hev
      have hset : ∀ z, (H.set 0 z)[0]? = some z := fun z => List.getElem?_set_self (lt_of_get e0)
      by_cases h4 : 4000 < (setE l).length
      · have h4' : (4000 : Int) < (setE l).length := by omega
        have hne : normalE n l = (0, [], 5) := by
          unfold setE at h4
          simp [normalE, if_neg h0, if_neg (show ¬ n > 1000 from h1), hall, if_pos h4]
        simp [-List.getD_eq_getElem?_getD, -Int.ofNat_toNat, -getElem?_pos, er2_0, er2_1, er2_2, er2_3, er2_4, er2_5, er2_6, er2_7, er2_8, er2_9, er2_10, er2_11, er2_12, er2_13, er2_14, er2_15, er2_17, er2_18, er2_19, er2_20, er2_21, er2_22, er2_23, er2_24, er2_26, er2_28, er2_29, er2_30, hnn, eg, hel, h4', e0, hset, resK, resVs, resV, pack, viewG0, hne, rv]
      · have h4' : ¬ (4000 : Int) < (setE l).length := by omega
        have hne : normalE n l = (n, setE l, 0) := normalE_ok (by omega) (by omega) hall (by omega)
        have hl0 := lt_of_get eg
        have hz : RdV true (H.set 0 (.cells 0 false [.int .i64 n, ev])) ev (setE l) := OwnE.rd (P := gb + 1) (Own.keep hev fun b hb hbe => List.getElem?_set_ne (by have := (Own.blk hev hbe).1; omega)) (fun h => by cases h)
        have hgoal := hz.viewG n 0
        simp [-List.getD_eq_getElem?_getD, -Int.ofNat_toNat, -getElem?_pos, er2_0, er2_1, er2_2, er2_3, er2_4, er2_5, er2_6, er2_7, er2_8, er2_9, er2_10, er2_11, er2_12, er2_13, er2_14, er2_15, er2_17, er2_18, er2_19, er2_20, er2_21, er2_22, er2_23, er2_24, er2_26, er2_28, er2_29, er2_30, hnn, eg, hel, h4', e0, hset, resK, resVs, resV, pack, Own.one hev, Own.cells hev, hgoal, hne]
end Go.Ai.G
namespace Go.Ai.G
open Go.Ai
set_option maxRecDepth 100000
set_option linter.unusedSimpArgs false
set_option linter.unusedVariables false
variable {A : AProg} {φ : Nat → Nat}
attribute [local simp ↓] getD_z getD_s hid_k hid_o hid_q hid_v PO_nil PO_none PO_grd PD_nil PD_none PD_grd PDO_N PDO_X PDO_call PDO_calli PDO_callv PStep_N PStep_X PStep_call PStep_calli PC_skip PC_lab
  PC_ret PC_exit PC_reg PC_draw PC_seq PC_block PC_loop PC_scope PC_cond thenC_norm thenC_ret thenC_exit blockC_norm blockC_ret blockC_exit loopC_norm loopC_ret loopC_exit endR_ret
  endR_norm
attribute [local simp] gz PDX_free PDX_eq PStep_callv resK_none resK_t resK_tt KNO_val KNO_new KNO_ite KNO_map KXO_some KXO_ite KVA_t KVA_f KG_skip KG_tt KG_ff KG_tf KG_ft KB_true KB_false KNOD_val
  KNOD_new KNOD_ite n_mv n_pick n_bin n_eqB n_eqN n_eqS n_un n_conv n_fadd n_faddV n_fld1 n_fldN n_idx n_idxA n_idxV n_idxAV n_ext n_lenS n_lenS0 n_lenV n_lenT n_lenA n_min n_max
  n_build n_mkfn n_slc n_slc0 n_slcV n_slcA n_load1 n_loadN n_load1V n_loadNV n_alloc n_box n_bsl n_mksl n_nilcP n_nilcV n_nilcI n_nilcF x_store x_clear0 x_clear b_add b_sub b_mul
  b_eql b_neq b_lss b_leq b_gtr b_geq b_and16 unV ntouch gather hide unhide evalOpd applyOuts int_bne int_beq ite_bool ite_int one_bool cells_bool one_int cells_int one_str cells_str
  one_nilp cells_nilp one_ptr cells_ptr one_nils cells_nils one_sl cells_sl one_nilf cells_nilf one_fn cells_fn one_nili cells_nili one_mp cells_mp one_nilm cells_nilm one_iface
  cells_iface one_vs cells_vs one_vp cells_vp cells_agg Nat.testBit setAt_1 setAt_2 closeds_nil closeds_cons closed_bool closed_int closed_str closed_nilp closed_nils closed_nilm
  closed_nilf closed_nili closed_agg closed_tup closed_vs closed_vp closed_iface closed_fn closeds_cI closeds_cE viewA_closed viewR_closed AV.scal AV.scal0 fillA repA part_bool
  part_int part_str part_nilp part_ptr part_nils part_sl part_nilm part_mp part_nilf part_fn part_nili part_iface part_agg part_vs part_vp viewA_sl1 vaSl_cells wrap_0 wrap_1 wrap_2
  wrap_m1 set_last get_last
theorem er6_0 (φ : Nat → Nat) : r6_0 φ = [
  ⟨0, .N .box, [.n 0], none, 0⟩,
  ⟨1, .N .mv, [.c (.bool false)], none, 0⟩] := Eq.trans rfl rfl
theorem er6_1 (φ : Nat → Nat) : r6_1 φ = [
  ⟨0, .N (.fadd 0), [.n 1], none, 0⟩,
  ⟨1, .N .load1, [.l 0], none, 0⟩,
  ⟨2, .N (.bin .lss), [.l 0, .c (.int .i64 0)], none, 0⟩,
  ⟨3, .N .mv, [.l 0], none, 0⟩,
  ⟨4, .N (.fadd 0), [.n 1], some (.l 0, false), 0⟩,
  ⟨5, .N .load1, [.l 0], some (.l 1, false), 0⟩,
  ⟨6, .N (.bin .gtr), [.l 0, .c (.int .i64 1000)], some (.l 2, false), 0⟩,
  ⟨7, .N .pick, [.l 3, .c (.bool true), .l 0], none, 0⟩,
  ⟨8, .N .mv, [.l 0], none, 0⟩,
  ⟨9, .N (.fadd 1), [.n 1], some (.l 0, false), 0⟩,
  ⟨10, .N .load1, [.l 0], some (.l 1, false), 0⟩,
  ⟨11, .N .lenS, [.l 0], some (.l 2, false), 0⟩,
  ⟨12, .N (.bin .gtr), [.l 0, .c (.int .i64 4000)], some (.l 3, false), 0⟩,
  ⟨13, .N .pick, [.l 4, .c (.bool true), .l 0], none, 0⟩] := Eq.trans rfl rfl
theorem er6_2 (φ : Nat → Nat) : r6_2 φ = [
  ⟨0, .N .mv, [.c (.bool false)], none, 0⟩] := Eq.trans rfl rfl
theorem er6_3 (φ : Nat → Nat) : r6_3 φ = [
  ⟨0, .N .mv, [.c (.int .i64 0)], none, 0⟩] := Eq.trans rfl rfl
theorem er6_4 (φ : Nat → Nat) : r6_4 φ = [
  ⟨0, .N .mv, [.n 3], none, 0⟩,
  ⟨1, .N (.fadd 1), [.n 1], none, 0⟩,
  ⟨2, .N .load1, [.l 0], none, 0⟩,
  ⟨3, .N .lenS, [.l 0], none, 0⟩,
  ⟨4, .N (.bin .lss), [.l 3, .l 0], none, 0⟩] := Eq.trans rfl rfl
theorem er6_5 (φ : Nat → Nat) : r6_5 φ = [
  ⟨0, .N (.fadd 1), [.n 1], none, 0⟩,
  ⟨1, .N .load1, [.l 0], none, 0⟩,
  ⟨2, .N .mv, [.n 3], none, 0⟩,
  ⟨3, .N (.idx 2), [.l 1, .l 0], none, 0⟩,
  ⟨4, .N (.loadN 2), [.l 0], none, 0⟩,
  ⟨5, .N (.alloc [.int .i64 0, .int .i64 0]), [], none, 0⟩,
  ⟨6, .X (.store 2), [.l 0, .l 1], none, 0⟩] := Eq.trans rfl rfl
theorem er6_6 (φ : Nat → Nat) : r6_6 φ = [
  ⟨0, .N (.fadd 0), [.n 4], none, 0⟩,
  ⟨1, .N .load1, [.l 0], none, 0⟩,
  ⟨2, .N (.bin .lss), [.l 0, .c (.int .i64 0)], none, 0⟩,
  ⟨3, .N .mv, [.l 0], none, 0⟩,
  ⟨4, .N (.fadd 1), [.n 4], some (.l 0, false), 0⟩,
  ⟨5, .N .load1, [.l 0], some (.l 1, false), 0⟩,
  ⟨6, .N (.fadd 0), [.n 1], some (.l 2, false), 0⟩,
  ⟨7, .N .load1, [.l 0], some (.l 3, false), 0⟩,
  ⟨8, .N (.bin .geq), [.l 2, .l 0], some (.l 4, false), 0⟩,
  ⟨9, .N .pick, [.l 5, .c (.bool true), .l 0], none, 0⟩,
  ⟨10, .N .mv, [.l 0], none, 0⟩,
  ⟨11, .N (.fadd 0), [.n 4], some (.l 0, false), 0⟩,
  ⟨12, .N .load1, [.l 0], some (.l 1, false), 0⟩,
  ⟨13, .N (.fadd 1), [.n 4], some (.l 2, false), 0⟩,
  ⟨14, .N .load1, [.l 0], some (.l 3, false), 0⟩,
  ⟨15, .N (.bin .geq), [.l 2, .l 0], some (.l 4, false), 0⟩,
  ⟨16, .N .pick, [.l 5, .c (.bool true), .l 0], none, 0⟩] := Eq.trans rfl rfl
theorem er6_7 (φ : Nat → Nat) : r6_7 φ = [
  ⟨0, .N .mv, [.c (.bool false)], none, 0⟩] := Eq.trans rfl rfl
theorem er6_8 (φ : Nat → Nat) : r6_8 φ = [
  ⟨0, .N .mv, [.n 3], none, 0⟩,
  ⟨1, .N (.bin .gtr), [.l 0, .c (.int .i64 0)], none, 1⟩,
  ⟨2, .N .mv, [.l 0], none, 3⟩,
  ⟨3, .N (.fadd 1), [.n 1], some (.l 0, true), 7⟩,
  ⟨4, .N .load1, [.l 0], some (.l 1, true), 15⟩,
  ⟨5, .N .mv, [.n 3], some (.l 2, true), 7⟩,
  ⟨6, .N (.bin .sub), [.l 0, .c (.int .i64 1)], some (.l 3, true), 39⟩,
  ⟨7, .N (.idx 2), [.l 2, .l 0], some (.l 4, true), 127⟩,
  ⟨8, .N (.fadd 0), [.l 0], some (.l 5, true), 255⟩,
  ⟨9, .N .load1, [.l 0], some (.l 6, true), 511⟩,
  ⟨10, .N (.fadd 0), [.n 4], some (.l 7, true), 7⟩,
  ⟨11, .N .load1, [.l 0], some (.l 8, true), 1031⟩,
  ⟨12, .N (.bin .gtr), [.l 2, .l 0], some (.l 9, true), 4095⟩,
  ⟨13, .N .mv, [.l 0], some (.l 10, true), 8191⟩,
  ⟨14, .N (.fadd 1), [.n 1], some (.l 0, false), 16383⟩,
  ⟨15, .N .load1, [.l 0], some (.l 1, false), 32767⟩,
  ⟨16, .N .mv, [.n 3], some (.l 2, false), 16383⟩,
  ⟨17, .N (.bin .sub), [.l 0, .c (.int .i64 1)], some (.l 3, false), 81919⟩,
  ⟨18, .N (.idx 2), [.l 2, .l 0], some (.l 4, false), 262143⟩,
  ⟨19, .N (.fadd 0), [.l 0], some (.l 5, false), 524287⟩,
  ⟨20, .N .load1, [.l 0], some (.l 6, false), 1048575⟩,
  ⟨21, .N (.fadd 0), [.n 4], some (.l 7, false), 16383⟩,
  ⟨22, .N .load1, [.l 0], some (.l 8, false), 2113535⟩,
  ⟨23, .N (.bin .eql), [.l 2, .l 0], some (.l 9, false), 8388607⟩,
  ⟨24, .N .mv, [.l 0], some (.l 10, false), 16777215⟩,
  ⟨25, .N (.fadd 1), [.n 1], some (.l 0, true), 33554431⟩,
  ⟨26, .N .load1, [.l 0], some (.l 1, true), 67108863⟩,
  ⟨27, .N .mv, [.n 3], some (.l 2, true), 33554431⟩,
  ⟨28, .N (.bin .sub), [.l 0, .c (.int .i64 1)], some (.l 3, true), 167772159⟩,
  ⟨29, .N (.idx 2), [.l 2, .l 0], some (.l 4, true), 536870911⟩,
  ⟨30, .N (.fadd 1), [.l 0], some (.l 5, true), 1073741823⟩,
  ⟨31, .N .load1, [.l 0], some (.l 6, true), 2147483647⟩,
  ⟨32, .N (.fadd 1), [.n 4], some (.l 7, true), 33554431⟩,
  ⟨33, .N .load1, [.l 0], some (.l 8, true), 4328521727⟩,
  ⟨34, .N (.bin .geq), [.l 2, .l 0], some (.l 9, true), 17179869183⟩,
  ⟨35, .N .pick, [.l 10, .l 0, .c (.bool false)], some (.l 21, false), 34359738367⟩,
  ⟨36, .N .pick, [.l 22, .c (.bool true), .l 0], some (.l 33, true), 68719476735⟩,
  ⟨37, .N .pick, [.l 34, .l 0, .c (.bool false)], none, 137438953471⟩] := Eq.trans rfl rfl
theorem er6_9 (φ : Nat → Nat) : r6_9 φ = [
  ⟨0, .N .mv, [.c (.bool false)], none, 0⟩] := Eq.trans rfl rfl
theorem er6_10 (φ : Nat → Nat) : r6_10 φ = [
  ⟨0, .N .mv, [.n 3], none, 0⟩,
  ⟨1, .N (.bin .add), [.l 0, .c (.int .i64 1)], none, 0⟩,
  ⟨2, .N .mv, [.l 0], none, 0⟩] := Eq.trans rfl rfl
theorem er6_12 (φ : Nat → Nat) : r6_12 φ = [
  ⟨0, .N .mv, [.c (.bool true)], none, 0⟩] := Eq.trans rfl rfl
theorem cmpE_neg (x y : Ed) : cmpE x y < 0 ↔ ltE x y := by
  unfold cmpE cmpI ltE
  split <;> (repeat' split) <;> omega
theorem right_len {n : Int} {es : List Ed} (h : rightE n es = true) : 0 ≤ n ∧ n ≤ 1000 ∧ es.length ≤ 4000 := by
  unfold rightE at h
  simp only [Bool.and_eq_true, decide_eq_true_eq] at h
  exact h.1
set_option maxHeartbeats 1000000 in
theorem w_RRight (h : Has A (φ 6) (f6 φ)) (n : Int) (v : AV) (es : List Ed) (hv : IsE v es) :
    PVal A (φ 6) [gV n v] (.bool (rightE n es)) := by
  have hlen := hv.len
  have hone := hv.one
  refine pval_has h rfl ?_
  simp only [l6_11, b6, f6]
  by_cases h0 : n < 0
  · have hf : rightE n es = false := by unfold rightE; simp; omega
    simp [-List.getD_eq_getElem?_getD, -Int.ofNat_toNat, -getElem?_pos, er6_0, er6_1, er6_2, er6_3, er6_4, er6_5, er6_6, er6_7, er6_8, er6_9, er6_10, er6_12, h0, hone, hlen, hf]
  by_cases h1 : 1000 < n
  · have hf : rightE n es = false := by unfold rightE; simp; omega
    simp [-List.getD_eq_getElem?_getD, -Int.ofNat_toNat, -getElem?_pos, er6_0, er6_1, er6_2, er6_3, er6_4, er6_5, er6_6, er6_7, er6_8, er6_9, er6_10, er6_12, h0, h1, hone, hlen, hf]
  by_cases h2 : 4000 < es.length
  · have hf : rightE n es = false := by unfold rightE; simp; omega
    have h2' : (4000 : Int) < es.length := by omega
    simp [-List.getD_eq_getElem?_getD, -Int.ofNat_toNat, -getElem?_pos, er6_0, er6_1, er6_2, er6_3, er6_4, er6_5, er6_6, er6_7, er6_8, er6_9, er6_10, er6_12, h0, h1, h2', hone, hlen, hf]
  have h2' : ¬ (4000 : Int) < es.length := by omega
  simp [-List.getD_eq_getElem?_getD, -Int.ofNat_toNat, -getElem?_pos, er6_0, er6_1, er6_2, er6_3, er6_4, er6_5, er6_6, er6_7, er6_8, er6_9, er6_10, er6_12, h0, h1, h2', hone, hlen]
  refine pc_loopI (fun m st => ∃ (i : Nat) (p q r s : AV) (J : Heap), i + m = es.length ∧ (∀ j, j < i → stepE n es j = true) ∧
    st = ([gV n v, .ptr 0 0 0, .bool false, .int .i64 i, p, .bool false, q, r, s], .cells 0 false [.int .i64 n, v] :: J)) es.length ⟨0, _, _, _, _, [], by simp, by simp, rfl⟩ ?_
  rintro m st ⟨i, p, q, r, s, J, hi, hs, rfl⟩
  by_cases hlt : i < es.length
  · have hlt' : (i : Int) < es.length := by omega
    obtain ⟨i1, g1', g2', le1, t1⟩ := hv.at hlt
    have hsi : stepE n es i = (decide (0 ≤ es[i].1) && decide (es[i].1 < es[i].2) && decide (es[i].2 < n) && (i == 0 || decide (cmpE (es.getD (i - 1) (0, 0)) es[i] < 0))) := by
      simp only [stepE, List.getD_eq_getElem?_getD, List.getElem?_eq_getElem hlt, Option.getD_some]
    have hw1 := wrap1 hlt (by omega)
    have hcm := cmpE_neg (es.getD (i - 1) (0, 0)) es[i]
    unfold ltE at hcm
    generalize hx : es[i].1 = x at *
    generalize hy : es[i].2 = y at *
    by_cases g1 : x < 0
    · have hf := right_false hlt (by rw [hsi]; simp; intros; omega)
      simp [-List.getD_eq_getElem?_getD, -Int.ofNat_toNat, -getElem?_pos, er6_0, er6_1, er6_2, er6_3, er6_4, er6_5, er6_6, er6_7, er6_8, er6_9, er6_10, er6_12, hlen, hlt', i1, le1, t1, g1, hf]
    by_cases g3 : n ≤ y
    · have hf := right_false hlt (by rw [hsi]; simp; intros; omega)
      simp [-List.getD_eq_getElem?_getD, -Int.ofNat_toNat, -getElem?_pos, er6_0, er6_1, er6_2, er6_3, er6_4, er6_5, er6_6, er6_7, er6_8, er6_9, er6_10, er6_12, hlen, hlt', i1, le1, t1, g1, g3, hf]
    by_cases g2 : y ≤ x
    · have hf := right_false hlt (by rw [hsi]; simp; intros; omega)
      simp [-List.getD_eq_getElem?_getD, -Int.ofNat_toNat, -getElem?_pos, er6_0, er6_1, er6_2, er6_3, er6_4, er6_5, er6_6, er6_7, er6_8, er6_9, er6_10, er6_12, hlen, hlt', i1, le1, t1, g1, g2, g3, hf]
    have hfin : (i = 0 ∨ cmpE (es.getD (i - 1) (0, 0)) es[i] < 0) → ∀ j, j < i + 1 → stepE n es j = true := by
      intro h j hj
      by_cases e : j < i
      · exact hs j e
      · have e : j = i := by omega
        subst e
        rw [hsi]
        have a1 : 0 ≤ x := by omega
        have a2 : x < y := by omega
        have a3 : y < n := by omega
        rw [decide_eq_true a1, decide_eq_true a2, decide_eq_true a3]
        rcases h with h | h
        · simp [h]
        · rw [decide_eq_true h]; simp
    by_cases g4 : i = 0
    · have g4' : ¬ 0 < i := by omega
      simp [-List.getD_eq_getElem?_getD, -Int.ofNat_toNat, -getElem?_pos, er6_0, er6_1, er6_2, er6_3, er6_4, er6_5, er6_6, er6_7, er6_8, er6_9, er6_10, er6_12, hlen, hlt', i1, le1, t1, g1, g2, g3, g4', hw1]
      exact next_mk (m - 1) (by omega) ⟨i + 1, _, _, _, _, _, by omega, hfin (.inl g4), rfl⟩
    have g4' : 0 < i := by omega
    have hlt1 : i - 1 < es.length := by omega
    obtain ⟨i2, g3', g4'', le2, t2⟩ := hv.at hlt1
    have hw : IntKind.i64.wrap ((i : Int) - 1) = ((i - 1 : Nat) : Int) := by rw [wrap_in (by omega) (by omega)]; omega
    have hbef : es.getD (i - 1) (0, 0) = es[i - 1] := by rw [List.getD_eq_getElem?_getD, List.getElem?_eq_getElem (by omega)]; rfl
    rw [hbef] at hcm hfin hsi
    generalize hx1 : es[i - 1].1 = x1 at *
    generalize hy1 : es[i - 1].2 = y1 at *
    by_cases g5 : x < x1
    · have hf := right_false hlt (by rw [hsi, decide_eq_false (by rw [hcm]; omega : ¬ cmpE es[i - 1] es[i] < 0)]; simp [g4])
      simp [-List.getD_eq_getElem?_getD, -Int.ofNat_toNat, -getElem?_pos, er6_0, er6_1, er6_2, er6_3, er6_4, er6_5, er6_6, er6_7, er6_8, er6_9, er6_10, er6_12, hlen, hlt', i1, le1, t1, g1, g2, g3, g4', hw, i2, g3', g4'', g5, hf]
    by_cases g6 : x1 = x
    · by_cases g7 : y ≤ y1
      · have hf := right_false hlt (by rw [hsi, decide_eq_false (by rw [hcm]; omega : ¬ cmpE es[i - 1] es[i] < 0)]; simp [g4])
        simp [-List.getD_eq_getElem?_getD, -Int.ofNat_toNat, -getElem?_pos, er6_0, er6_1, er6_2, er6_3, er6_4, er6_5, er6_6, er6_7, er6_8, er6_9, er6_10, er6_12, hlen, hlt', i1, le1, t1, g1, g2, g3, g4', hw, i2, g3', g4'', g5, g6, g7, hf]
      · simp [-List.getD_eq_getElem?_getD, -Int.ofNat_toNat, -getElem?_pos, er6_0, er6_1, er6_2, er6_3, er6_4, er6_5, er6_6, er6_7, er6_8, er6_9, er6_10, er6_12, hlen, hlt', i1, le1, t1, g1, g2, g3, g4', hw, hw1, i2, g3', g4'', g5, g6, g7]
        exact next_mk (m - 1) (by omega) ⟨i + 1, _, _, _, _, _, by omega, hfin (.inr (by rw [hcm]; omega)), rfl⟩
    · simp [-List.getD_eq_getElem?_getD, -Int.ofNat_toNat, -getElem?_pos, er6_0, er6_1, er6_2, er6_3, er6_4, er6_5, er6_6, er6_7, er6_8, er6_9, er6_10, er6_12, hlen, hlt', i1, le1, t1, g1, g2, g3, g4', hw, hw1, i2, g3', g4'', g5, g6]
      exact next_mk (m - 1) (by omega) ⟨i + 1, _, _, _, _, _, by omega, hfin (.inr (by rw [hcm]; omega)), rfl⟩
  · have hlt' : ¬ (i : Int) < es.length := by omega
    have hm : i = es.length := by omega
    have hf := right_true (n := n) (l := es) (by omega) (by rw [hm] at hs; exact hs)
    simp [-List.getD_eq_getElem?_getD, -Int.ofNat_toNat, -getElem?_pos, er6_0, er6_1, er6_2, er6_3, er6_4, er6_5, er6_6, er6_7, er6_8, er6_9, er6_10, er6_12, hlen, hlt', hf]
def hasE (n : Int) (es : List Ed) (a b : Int) : Bool := rightE n es && (decide ((a, b) ∈ es) || decide ((b, a) ∈ es))
end Go.Ai.G
namespace Go.Ai.G
open Go.Ai
set_option maxRecDepth 100000
set_option linter.unusedSimpArgs false
set_option linter.unusedVariables false
variable {A : AProg} {φ : Nat → Nat}
attribute [local simp ↓] getD_z getD_s hid_k hid_o hid_q hid_v PO_nil PO_none PO_grd PD_nil PD_none PD_grd PDO_N PDO_X PDO_call PDO_calli PDO_callv PStep_N PStep_X PStep_call PStep_calli PC_skip PC_lab
  PC_ret PC_exit PC_reg PC_draw PC_seq PC_block PC_loop PC_scope PC_cond thenC_norm thenC_ret thenC_exit blockC_norm blockC_ret blockC_exit loopC_norm loopC_ret loopC_exit endR_ret
  endR_norm
attribute [local simp] gz PDX_free PDX_eq PStep_callv resK_none resK_t resK_tt KNO_val KNO_new KNO_ite KNO_map KXO_some KXO_ite KVA_t KVA_f KG_skip KG_tt KG_ff KG_tf KG_ft KB_true KB_false KNOD_val
  KNOD_new KNOD_ite n_mv n_pick n_bin n_eqB n_eqN n_eqS n_un n_conv n_fadd n_faddV n_fld1 n_fldN n_idx n_idxA n_idxV n_idxAV n_ext n_lenS n_lenS0 n_lenV n_lenT n_lenA n_min n_max
  n_build n_mkfn n_slc n_slc0 n_slcV n_slcA n_load1 n_loadN n_load1V n_loadNV n_alloc n_box n_bsl n_mksl n_nilcP n_nilcV n_nilcI n_nilcF x_store x_clear0 x_clear b_add b_sub b_mul
  b_eql b_neq b_lss b_leq b_gtr b_geq b_and16 unV ntouch gather hide unhide evalOpd applyOuts int_bne int_beq ite_bool ite_int one_bool cells_bool one_int cells_int one_str cells_str
  one_nilp cells_nilp one_ptr cells_ptr one_nils cells_nils one_sl cells_sl one_nilf cells_nilf one_fn cells_fn one_nili cells_nili one_mp cells_mp one_nilm cells_nilm one_iface
  cells_iface one_vs cells_vs one_vp cells_vp cells_agg Nat.testBit setAt_1 setAt_2 closeds_nil closeds_cons closed_bool closed_int closed_str closed_nilp closed_nils closed_nilm
  closed_nilf closed_nili closed_agg closed_tup closed_vs closed_vp closed_iface closed_fn closeds_cI closeds_cE viewA_closed viewR_closed AV.scal AV.scal0 fillA repA part_bool
  part_int part_str part_nilp part_ptr part_nils part_sl part_nilm part_mp part_nilf part_fn part_nili part_iface part_agg part_vs part_vp viewA_sl1 vaSl_cells wrap_0 wrap_1 wrap_2
  wrap_m1 set_last get_last
theorem er10_0 (φ : Nat → Nat) : r10_0 φ = [
  ⟨0, .N .box, [.n 0], none, 0⟩,
  ⟨1, .N .mv, [.c (.nils)], none, 0⟩] := Eq.trans rfl rfl
theorem er10_1 (φ : Nat → Nat) : r10_1 φ = [
  ⟨0, .N (.bsl [.int .i64 0] 0 1 []), [], none, 0⟩,
  ⟨1, .N .mv, [.l 0], none, 0⟩] := Eq.trans rfl rfl
theorem er10_2 (φ : Nat → Nat) : r10_2 φ = [
  ⟨0, .N (.loadN 2), [.n 2], none, 0⟩,
  ⟨1, .calli true (φ 6), [.l 0], none, 0⟩,
  ⟨2, .N (.un .not), [.l 0], none, 0⟩] := Eq.trans rfl rfl
theorem er10_3 (φ : Nat → Nat) : r10_3 φ = [
  ⟨0, .N .mv, [.n 4], none, 0⟩,
  ⟨1, .N .mv, [.l 0], none, 0⟩] := Eq.trans rfl rfl
theorem er10_4 (φ : Nat → Nat) : r10_4 φ = [
  ⟨0, .N .mv, [.c (.int .i64 0)], none, 0⟩] := Eq.trans rfl rfl
theorem er10_5 (φ : Nat → Nat) : r10_5 φ = [
  ⟨0, .N .mv, [.n 5], none, 0⟩,
  ⟨1, .N (.fadd 1), [.n 2], none, 0⟩,
  ⟨2, .N .load1, [.l 0], none, 0⟩,
  ⟨3, .N .lenS, [.l 0], none, 0⟩,
  ⟨4, .N (.bin .lss), [.l 3, .l 0], none, 0⟩] := Eq.trans rfl rfl
theorem er10_6 (φ : Nat → Nat) : r10_6 φ = [
  ⟨0, .N (.fadd 1), [.n 2], none, 0⟩,
  ⟨1, .N .load1, [.l 0], none, 0⟩,
  ⟨2, .N .mv, [.n 5], none, 0⟩,
  ⟨3, .N (.idx 2), [.l 1, .l 0], none, 0⟩,
  ⟨4, .N (.fadd 0), [.l 0], none, 0⟩,
  ⟨5, .N .load1, [.l 0], none, 0⟩,
  ⟨6, .N .mv, [.n 1], none, 0⟩,
  ⟨7, .N (.bin .eql), [.l 1, .l 0], none, 0⟩] := Eq.trans rfl rfl
theorem er10_7 (φ : Nat → Nat) : r10_7 φ = [
  ⟨0, .N .mv, [.n 4], none, 0⟩,
  ⟨1, .N (.fadd 1), [.n 2], none, 0⟩,
  ⟨2, .N .load1, [.l 0], none, 0⟩,
  ⟨3, .N .mv, [.n 5], none, 0⟩,
  ⟨4, .N (.idx 2), [.l 1, .l 0], none, 0⟩,
  ⟨5, .N (.fadd 1), [.l 0], none, 0⟩,
  ⟨6, .N .load1, [.l 0], none, 0⟩,
  ⟨7, .N (.bsl [.int .i64 0] 1 1 [(0, 1)]), [.l 0], none, 0⟩,
  ⟨8, .X (.app 1 8), [.l 7, .l 0], none, 0⟩,
  ⟨9, .N .mv, [.l 0], none, 0⟩] := Eq.trans rfl rfl
theorem er10_8 (φ : Nat → Nat) : r10_8 φ = [
  ⟨0, .N (.fadd 1), [.n 2], none, 0⟩,
  ⟨1, .N .load1, [.l 0], none, 0⟩,
  ⟨2, .N .mv, [.n 5], none, 0⟩,
  ⟨3, .N (.idx 2), [.l 1, .l 0], none, 0⟩,
  ⟨4, .N (.fadd 1), [.l 0], none, 0⟩,
  ⟨5, .N .load1, [.l 0], none, 0⟩,
  ⟨6, .N .mv, [.n 1], none, 0⟩,
  ⟨7, .N (.bin .eql), [.l 1, .l 0], none, 0⟩] := Eq.trans rfl rfl
theorem er10_9 (φ : Nat → Nat) : r10_9 φ = [
  ⟨0, .N .mv, [.n 4], none, 0⟩,
  ⟨1, .N (.fadd 1), [.n 2], none, 0⟩,
  ⟨2, .N .load1, [.l 0], none, 0⟩,
  ⟨3, .N .mv, [.n 5], none, 0⟩,
  ⟨4, .N (.idx 2), [.l 1, .l 0], none, 0⟩,
  ⟨5, .N (.fadd 0), [.l 0], none, 0⟩,
  ⟨6, .N .load1, [.l 0], none, 0⟩,
  ⟨7, .N (.bsl [.int .i64 0] 1 1 [(0, 1)]), [.l 0], none, 0⟩,
  ⟨8, .X (.app 1 8), [.l 7, .l 0], none, 0⟩,
  ⟨9, .N .mv, [.l 0], none, 0⟩] := Eq.trans rfl rfl
theorem er10_10 (φ : Nat → Nat) : r10_10 φ = [
  ⟨0, .N .mv, [.n 5], none, 0⟩,
  ⟨1, .N (.bin .add), [.l 0, .c (.int .i64 1)], none, 0⟩,
  ⟨2, .N .mv, [.l 0], none, 0⟩] := Eq.trans rfl rfl
theorem er10_12 (φ : Nat → Nat) : r10_12 φ = [
  ⟨0, .N .mv, [.n 4], none, 0⟩,
  ⟨1, .calli false (φ 30), [.l 0], none, 0⟩,
  ⟨2, .N .mv, [.l 0], none, 0⟩] := Eq.trans rfl rfl
/-- The neighbours of a vertex, edge by edge. -/
def nbr (v : Int) (x : Ed) : List Int := (if x.1 = v then [x.2] else []) ++ (if x.2 = v then [x.1] else [])
def nbR (v : Int) (es : List Ed) : List Int := es.flatMap (nbr v)
theorem nbR_snoc (v : Int) (es : List Ed) (x : Ed) : nbR v (es ++ [x]) = nbR v es ++ nbr v x := by simp [nbR]
theorem nbR_len (v : Int) (es : List Ed) : (nbR v es).length ≤ 2 * es.length := by
  induction es with
  | nil => simp [nbR]
  | cons x l ih =>
    simp only [nbR, List.flatMap_cons, List.length_append, List.length_cons] at *
    have : (nbr v x).length ≤ 2 := by unfold nbr; split <;> split <;> simp
    omega
set_option maxHeartbeats 1000000 in
theorem w_RNear (h : Has A (φ 10) (f10 φ)) (h2 : Has A (φ 6) (f6 φ)) (h3 : Has A (φ 30) (f30 φ)) (n a : Int) (v : AV) (es : List Ed) (hv : IsE v es) :
    PVal A (φ 10) [gV n v, .int .i64 a] (vI (if rightE n es then sortI (nbR a es) else [])) := by
  have hlen := hv.len
  have hone := hv.one
  have hcl := hv.closed
  have hr := (w_RRight h2 n v es hv).eq
  by_cases hR : rightE n es = true
  · have hl := right_len hR
    rw [if_pos hR]
    refine pval_has h rfl ?_
    simp only [l10_11, b10, f10]
    simp [-List.getD_eq_getElem?_getD, -Int.ofNat_toNat, -getElem?_pos, er10_0, er10_1, er10_2, er10_3, er10_4, er10_5, er10_6, er10_7, er10_8, er10_9, er10_10, er10_12, hone, hlen, hcl, hr, hR]
    refine pc_loopI (fun m st => ∃ (i : Nat) (o p q r : AV) (H : Heap), i + m = es.length ∧ OwnI false 1 H o (nbR a (es.take i)) ∧ H[0]? = some (.cells 0 false [.int .i64 n, v]) ∧
      st = ([gV n v, .int .i64 a, .ptr 0 0 0, .nils, o, .int .i64 i, .bool false, p, q, r], H)) es.length ⟨0, _, _, _, _, _, by simp, ownI_empty 1 _ 1 0 0, rfl, rfl⟩ ?_
    rintro m st ⟨i, o, p, q, r, H, hi, ho, e0, rfl⟩
    by_cases hlt : i < es.length
    · have hlt' : (i : Int) < es.length := by omega
      obtain ⟨i1, g1', g2', le1, t1⟩ := hv.at hlt
      have hw1 := wrap1 hlt (by omega)
      have hsn := nbR_snoc a (es.take i) es[i]
      rw [← List.take_succ_eq_append_getElem hlt] at hsn
      have hnl := nbR_len a (es.take i)
      have hl0 := lt_of_get e0
      unfold nbr at hsn
      generalize hx : es[i].1 = x at *
      generalize hy : es[i].2 = y at *
      obtain ⟨o1, H1, x1, x2, x3, x4, _, _⟩ := OwnI.app1 ho y hl0 (by simp at hnl; omega)
      have e1 : H1[0]? = some (.cells 0 false [.int .i64 n, v]) := by rw [x3 0 (by omega)]; exact e0
      by_cases k1 : x = a
      · rw [if_pos k1] at hsn
        by_cases k2 : y = a
        · rw [if_pos k2] at hsn
          obtain ⟨o2, H2, y1, y2, y3, y4, _, _⟩ := OwnI.app1 x2 x (lt_of_get e1) (by simp at hnl ⊢; omega)
          have e2 : H2[0]? = some (.cells 0 false [.int .i64 n, v]) := by rw [y3 0 (by omega)]; exact e1
          rw [k1] at y1 y2; rw [k2] at x1
          simp [-List.getD_eq_getElem?_getD, -Int.ofNat_toNat, -getElem?_pos, er10_0, er10_1, er10_2, er10_3, er10_4, er10_5, er10_6, er10_7, er10_8, er10_9, er10_10, er10_12, hlen, hlt', e0, e1, i1, g1', g2', k1, k2, x1, y1, hw1]
          refine next_mk (m - 1) (by omega) ⟨i + 1, o2, _, _, _, H2, by omega, ?_, e2, rfl⟩
          rw [hsn]; rw [k2] at y2; simpa [k1, k2] using y2
        · rw [if_neg k2, List.append_nil] at hsn
          simp [-List.getD_eq_getElem?_getD, -Int.ofNat_toNat, -getElem?_pos, er10_0, er10_1, er10_2, er10_3, er10_4, er10_5, er10_6, er10_7, er10_8, er10_9, er10_10, er10_12, hlen, hlt', e0, e1, i1, g1', g2', k1, k2, x1, hw1]
          exact next_mk (m - 1) (by omega) ⟨i + 1, o1, _, _, _, H1, by omega, by rw [hsn]; exact x2, e1, rfl⟩
      · rw [if_neg k1, List.nil_append] at hsn
        by_cases k2 : y = a
        · rw [if_pos k2] at hsn
          obtain ⟨o2, H2, y1, y2, y3, y4, _, _⟩ := OwnI.app1 ho x hl0 (by simp at hnl ⊢; omega)
          have e2 : H2[0]? = some (.cells 0 false [.int .i64 n, v]) := by rw [y3 0 (by omega)]; exact e0
          simp [-List.getD_eq_getElem?_getD, -Int.ofNat_toNat, -getElem?_pos, er10_0, er10_1, er10_2, er10_3, er10_4, er10_5, er10_6, er10_7, er10_8, er10_9, er10_10, er10_12, hlen, hlt', e0, i1, g1', g2', k1, k2, y1, hw1]
          exact next_mk (m - 1) (by omega) ⟨i + 1, o2, _, _, _, H2, by omega, by rw [hsn]; exact y2, e2, rfl⟩
        · rw [if_neg k2, List.append_nil] at hsn
          simp [-List.getD_eq_getElem?_getD, -Int.ofNat_toNat, -getElem?_pos, er10_0, er10_1, er10_2, er10_3, er10_4, er10_5, er10_6, er10_7, er10_8, er10_9, er10_10, er10_12, hlen, hlt', e0, i1, g1', g2', k1, k2, hw1]
          exact next_mk (m - 1) (by omega) ⟨i + 1, o, _, _, _, H, by omega, by rw [hsn]; exact ho, e0, rfl⟩
    · have hlt' : ¬ (i : Int) < es.length := by omega
      have hm : es.take i = es := List.take_of_length_le (by omega)
      rw [hm] at ho
      have hnl := nbR_len a es
      obtain ⟨H', hva, _, _⟩ := OwnI.viewA1 ho
      have hs := (w_Sorted h3 _ (nbR a es) (isI_v _) (by omega)).eq
      rw [rv_false] at hva
      simp [-List.getD_eq_getElem?_getD, -Int.ofNat_toNat, -getElem?_pos, er10_0, er10_1, er10_2, er10_3, er10_4, er10_5, er10_6, er10_7, er10_8, er10_9, er10_10, er10_12, hlen, hlt', e0, hva, hs]
  · rw [if_neg hR]
    simp only [Bool.not_eq_true] at hR
    refine pval_has h rfl ?_
    simp only [l10_11, b10, f10]
    simp [-List.getD_eq_getElem?_getD, -Int.ofNat_toNat, -getElem?_pos, er10_0, er10_1, er10_2, er10_3, er10_4, er10_5, er10_6, er10_7, er10_8, er10_9, er10_10, er10_12, hone, hlen, hcl, hr, hR, viewR_def, viewV_sl0, reachV_sl0, fuelV, frzH_nil, cI]
/-- How often a vertex stands at an end. -/
def cnt (v : Int) (es : List Ed) : Nat := es.countP (fun x => decide (x.1 = v)) + es.countP (fun x => decide (x.2 = v))
theorem right_step {n : Int} {es : List Ed} (h : rightE n es = true) {i : Nat} (hi : i < es.length) : 0 ≤ es[i].1 ∧ es[i].1 < es[i].2 ∧ es[i].2 < n := by
  unfold rightE at h
  simp only [Bool.and_eq_true] at h
  have := List.all_eq_true.1 h.2 i (List.mem_range.2 hi)
  simp only [stepE, List.getD_eq_getElem?_getD, List.getElem?_eq_getElem hi, Option.getD_some, Bool.and_eq_true, decide_eq_true_eq] at this
  exact ⟨this.1.1.1, this.1.1.2, this.1.2⟩
end Go.Ai.G
namespace Go.Ai.G
open Go.Ai
set_option maxRecDepth 100000
set_option linter.unusedSimpArgs false
set_option linter.unusedVariables false
variable {A : AProg} {φ : Nat → Nat}
attribute [local simp ↓] getD_z getD_s hid_k hid_o hid_q hid_v PO_nil PO_none PO_grd PD_nil PD_none PD_grd PDO_N PDO_X PDO_call PDO_calli PDO_callv PStep_N PStep_X PStep_call PStep_calli PC_skip PC_lab
  PC_ret PC_exit PC_reg PC_draw PC_seq PC_block PC_loop PC_scope PC_cond thenC_norm thenC_ret thenC_exit blockC_norm blockC_ret blockC_exit loopC_norm loopC_ret loopC_exit endR_ret
  endR_norm
attribute [local simp] gz PDX_free PDX_eq PStep_callv resK_none resK_t resK_tt KNO_val KNO_new KNO_ite KNO_map KXO_some KXO_ite KVA_t KVA_f KG_skip KG_tt KG_ff KG_tf KG_ft KB_true KB_false KNOD_val
  KNOD_new KNOD_ite n_mv n_pick n_bin n_eqB n_eqN n_eqS n_un n_conv n_fadd n_faddV n_fld1 n_fldN n_idx n_idxA n_idxV n_idxAV n_ext n_lenS n_lenS0 n_lenV n_lenT n_lenA n_min n_max
  n_build n_mkfn n_slc n_slc0 n_slcV n_slcA n_load1 n_loadN n_load1V n_loadNV n_alloc n_box n_bsl n_mksl n_nilcP n_nilcV n_nilcI n_nilcF x_store x_clear0 x_clear b_add b_sub b_mul
  b_eql b_neq b_lss b_leq b_gtr b_geq b_and16 unV ntouch gather hide unhide evalOpd applyOuts int_bne int_beq ite_bool ite_int one_bool cells_bool one_int cells_int one_str cells_str
  one_nilp cells_nilp one_ptr cells_ptr one_nils cells_nils one_sl cells_sl one_nilf cells_nilf one_fn cells_fn one_nili cells_nili one_mp cells_mp one_nilm cells_nilm one_iface
  cells_iface one_vs cells_vs one_vp cells_vp cells_agg Nat.testBit setAt_1 setAt_2 closeds_nil closeds_cons closed_bool closed_int closed_str closed_nilp closed_nils closed_nilm
  closed_nilf closed_nili closed_agg closed_tup closed_vs closed_vp closed_iface closed_fn closeds_cI closeds_cE viewA_closed viewR_closed AV.scal AV.scal0 fillA repA part_bool
  part_int part_str part_nilp part_ptr part_nils part_sl part_nilm part_mp part_nilf part_fn part_nili part_iface part_agg part_vs part_vp viewA_sl1 vaSl_cells wrap_0 wrap_1 wrap_2
  wrap_m1 set_last get_last
theorem er32_0 (φ : Nat → Nat) : r32_0 φ = [
  ⟨0, .N .mv, [.c (.nils)], none, 0⟩] := Eq.trans rfl rfl
theorem er32_1 (φ : Nat → Nat) : r32_1 φ = [
  ⟨0, .N .mv, [.n 0], none, 0⟩,
  ⟨1, .N (.eqN 1 false), [.l 0, .c (.nils)], none, 0⟩] := Eq.trans rfl rfl
theorem er32_2 (φ : Nat → Nat) : r32_2 φ = [
  ⟨0, .N .mv, [.c (.nils)], none, 0⟩] := Eq.trans rfl rfl
theorem er32_3 (φ : Nat → Nat) : r32_3 φ = [
  ⟨0, .N (.bsl [.int .i64 0, .int .i64 0] 0 2 []), [], none, 0⟩,
  ⟨1, .N .mv, [.n 0], none, 0⟩,
  ⟨2, .X (.app 2 16), [.l 1, .l 0], none, 0⟩,
  ⟨3, .N .mv, [.l 0], none, 0⟩] := Eq.trans rfl rfl
theorem er22_0 (φ : Nat → Nat) : r22_0 φ = [
  ⟨0, .N (.alloc [.int .i64 0, .nils]), [], none, 0⟩] := Eq.trans rfl rfl
theorem er22_1 (φ : Nat → Nat) : r22_1 φ = [
  ⟨0, .N .mv, [.n 0], none, 0⟩,
  ⟨1, .N (.bin .and), [.l 0, .c (.int .i64 65535)], none, 0⟩,
  ⟨2, .N .mv, [.n 2], none, 0⟩,
  ⟨3, .N (.bin .add), [.l 0, .c (.int .i64 1)], none, 0⟩,
  ⟨4, .N (.bin .rem), [.l 2, .l 0], none, 0⟩,
  ⟨5, .N .mv, [.l 0], none, 0⟩] := Eq.trans rfl rfl
theorem er22_2 (φ : Nat → Nat) : r22_2 φ = [
  ⟨0, .N .mv, [.c (.nils)], none, 0⟩] := Eq.trans rfl rfl
theorem er22_3 (φ : Nat → Nat) : r22_3 φ = [
  ⟨0, .N .mv, [.c (.int .i64 0)], none, 0⟩] := Eq.trans rfl rfl
theorem er22_4 (φ : Nat → Nat) : r22_4 φ = [
  ⟨0, .N .mv, [.n 5], none, 0⟩,
  ⟨1, .N .mv, [.n 1], none, 0⟩,
  ⟨2, .N .lenS, [.l 0], none, 0⟩,
  ⟨3, .N (.bin .lss), [.l 2, .l 0], none, 0⟩,
  ⟨4, .N .mv, [.l 0], none, 0⟩,
  ⟨5, .N .mv, [.n 5], some (.l 0, true), 0⟩,
  ⟨6, .N (.bin .lss), [.l 0, .c (.int .i64 300)], some (.l 1, true), 0⟩,
  ⟨7, .N .pick, [.l 2, .l 0, .c (.bool false)], none, 0⟩,
  ⟨8, .N .mv, [.l 0], none, 0⟩,
  ⟨9, .N .mv, [.n 0], some (.l 0, true), 0⟩,
  ⟨10, .N (.bin .gtr), [.l 0, .c (.int .i64 0)], some (.l 1, true), 0⟩,
  ⟨11, .N .pick, [.l 2, .l 0, .c (.bool false)], none, 0⟩] := Eq.trans rfl rfl
theorem er22_5 (φ : Nat → Nat) : r22_5 φ = [
  ⟨0, .N .mv, [.n 4], none, 0⟩,
  ⟨1, .N .mv, [.n 1], none, 0⟩,
  ⟨2, .N .mv, [.n 5], none, 0⟩,
  ⟨3, .N (.idx 2), [.l 1, .l 0], none, 6⟩,
  ⟨4, .N (.fadd 0), [.l 0], none, 14⟩,
  ⟨5, .N .load1, [.l 0], none, 30⟩,
  ⟨6, .N (.bin .and), [.l 0, .c (.int .i64 65535)], none, 62⟩,
  ⟨7, .N .mv, [.n 0], none, 0⟩,
  ⟨8, .N (.bin .rem), [.l 1, .l 0], none, 254⟩,
  ⟨9, .N .mv, [.n 1], none, 0⟩,
  ⟨10, .N .mv, [.n 5], none, 0⟩,
  ⟨11, .N (.idx 2), [.l 1, .l 0], none, 1536⟩,
  ⟨12, .N (.fadd 1), [.l 0], none, 3584⟩,
  ⟨13, .N .load1, [.l 0], none, 7680⟩,
  ⟨14, .N (.bin .and), [.l 0, .c (.int .i64 65535)], none, 15872⟩,
  ⟨15, .N .mv, [.n 0], none, 0⟩,
  ⟨16, .N (.bin .rem), [.l 1, .l 0], none, 65024⟩,
  ⟨17, .N (.build [.int .i64 0, .int .i64 0] [(0, 1), (1, 1)]), [.l 8, .l 0], none, 131070⟩,
  ⟨18, .N (.bsl [.int .i64 0, .int .i64 0] 1 2 [(0, 2)]), [.l 0], none, 262142⟩,
  ⟨19, .X (.app 2 16), [.l 18, .l 0], none, 524287⟩,
  ⟨20, .N .mv, [.l 0], none, 1048575⟩] := Eq.trans rfl rfl
theorem er22_6 (φ : Nat → Nat) : r22_6 φ = [
  ⟨0, .N .mv, [.n 5], none, 0⟩,
  ⟨1, .N (.bin .add), [.l 0, .c (.int .i64 1)], none, 0⟩,
  ⟨2, .N .mv, [.l 0], none, 0⟩] := Eq.trans rfl rfl
theorem er22_8 (φ : Nat → Nat) : r22_8 φ = [
  ⟨0, .N .mv, [.n 0], none, 0⟩,
  ⟨1, .N .mv, [.n 4], none, 0⟩,
  ⟨2, .calli false (φ 2), [.l 1, .l 0], none, 0⟩,
  ⟨3, .N .mv, [.l 0], none, 0⟩,
  ⟨4, .N (.ext 0), [.l 0], none, 0⟩,
  ⟨5, .N (.ext 1), [.l 1], none, 0⟩,
  ⟨6, .N (.alloc [.int .i64 0, .nils]), [], none, 0⟩,
  ⟨7, .X (.store 2), [.l 0, .l 2], none, 0⟩,
  ⟨8, .N .mv, [.l 2], none, 0⟩] := Eq.trans rfl rfl
theorem er22_9 (φ : Nat → Nat) : r22_9 φ = [
  ⟨0, .N (.loadN 2), [.n 6], none, 0⟩,
  ⟨1, .X (.store 2), [.n 3, .l 0], none, 0⟩] := Eq.trans rfl rfl
/-- A copy that is one's own. -/
theorem w_Clone (h : Has A (φ 32) (f32 φ)) {v : AV} {es : List Ed} (hv : IsE v es) (hn : es.length < 1000000000000) {H : Heap} {K : AV → Heap → Prop}
    (hk : ∀ nl v' H', OwnE nl H.length H' v' es → (∀ b, b < H.length → H'[b]? = H[b]?) → H.length ≤ H'.length → K v' H') : PCall A (φ 32) [v] H K := by
  refine pcall_has h rfl ?_
  simp only [b32, f32]
  obtain ⟨h1, h2, ⟨rfl, h3⟩ | rfl⟩ := hv
  · have : es = [] := List.length_eq_zero_iff.1 h3
    subst this
    simp [-List.getD_eq_getElem?_getD, -Int.ofNat_toNat, -getElem?_pos, er32_0, er32_1, er32_2, er32_3, n_eqN, AV.isNilK]
    exact hk true .nils H (own_nil _ _ _) (fun _ _ => rfl) (Nat.le_refl _)
  · have ho : OwnE false H.length (H ++ [Ob.cells 0 false []]) (.sl H.length 0 0 0 2 0 true) [] := ownE_empty _ _ _ _ _
    obtain ⟨v', H', x1, x2, x3, x4, x5⟩ := Own.app (bytes := 16) ho (src_vs _ es.length 2 (cellsE es)) (by rw [cellsE_length]) (ones_cE es) (by simp) (by simp; omega)
    simp [-List.getD_eq_getElem?_getD, -Int.ofNat_toNat, -getElem?_pos, er32_0, er32_1, er32_2, er32_3, n_eqN, AV.isNilK, x1]
    rw [cellsE_nil, List.nil_append] at x2
    refine hk false v' H' (by simpa using x2) (fun b hb => ?_) (by simp at x4; omega)
    rw [x3 b (by simp; omega) (by simp [blkOf]), List.getElem?_append_left hb]
/-! ### Any graph -/
def turnE (N : Int) (x : Ed) : Ed := ((x.1 % 65536).tmod N, (x.2 % 65536).tmod N)
def anyN (n most : Int) : Int := (n % 65536).tmod (most + 1)
def anyL (n : Int) (l : List Ed) : List Ed := if n > 0 then (l.take 300).map (turnE n) else []
theorem anyN_range {n most : Int} (h : 0 ≤ most) : 0 ≤ anyN n most ∧ anyN n most ≤ most := by
  unfold anyN
  have h1 : (0 : Int) ≤ n % 65536 := Int.emod_nonneg _ (by decide)
  rw [Int.tmod_eq_emod_of_nonneg h1]
  have := Int.emod_nonneg (n % 65536) (show most + 1 ≠ 0 by omega)
  have := Int.emod_lt_of_pos (n % 65536) (show 0 < most + 1 by omega)
  omega
theorem turnE_range {N : Int} (h : 0 < N) (x : Ed) : 0 ≤ (turnE N x).1 ∧ (turnE N x).1 < N ∧ 0 ≤ (turnE N x).2 ∧ (turnE N x).2 < N := by
  have e1 : (0 : Int) ≤ x.1 % 65536 := Int.emod_nonneg _ (by decide)
  have e2 : (0 : Int) ≤ x.2 % 65536 := Int.emod_nonneg _ (by decide)
  simp only [turnE, Int.tmod_eq_emod_of_nonneg e1, Int.tmod_eq_emod_of_nonneg e2]
  exact ⟨Int.emod_nonneg _ (by omega), Int.emod_lt_of_pos _ (by omega), Int.emod_nonneg _ (by omega), Int.emod_lt_of_pos _ (by omega)⟩
theorem anyL_ok (n : Int) (l : List Ed) : (anyL n l).all (okEnds n) = true := by
  unfold anyL
  split
  · rw [List.all_eq_true]
    intro x hx
    rw [List.mem_map] at hx
    obtain ⟨y, _, rfl⟩ := hx
    have := turnE_range (N := n) (by omega) y
    rw [okEnds, decide_eq_true (by omega), decide_eq_true (by omega)]; rfl
  · rfl
theorem anyL_len (n : Int) (l : List Ed) : (anyL n l).length ≤ 300 := by
  unfold anyL
  split
  · simp; omega
  · simp
/-- The graph that is made of anything. -/
def anyE (n most : Int) (l : List Ed) : List Ed := setE (anyL (anyN n most) l)
theorem any_normal {n most : Int} (l : List Ed) (h0 : 0 ≤ most) (h1 : most ≤ 1000) : normalE (anyN n most) (anyL (anyN n most) l) = (anyN n most, anyE n most l, 0) := by
  have hr := anyN_range (n := n) h0
  refine normalE_ok (by omega) (by omega) (anyL_ok _ _) ?_
  have := setE_le (anyL (anyN n most) l)
  have := anyL_len (anyN n most) l
  omega
theorem w_Any (h : Has A (φ 22) (f22 φ)) (hN : ∀ n v l, IsE v l → l.length < 1000000000 → PVal A (φ 2) [.int .i64 n, v] (nR n l)) (n most : Int) (v : AV) (l : List Ed) (hv : IsE v l) (h0 : 0 ≤ most) (h1 : most ≤ 1000) :
    PVal A (φ 22) [.int .i64 n, v, .int .i64 most] (gV (anyN n most) (rE (anyE n most l))) := by
  have hlen := hv.len
  have hr := anyN_range (n := n) h0
  have hw0 : IntKind.i64.wrap (most + 1) = most + 1 := wrap_in (by omega) (by omega)
  have hb : binV .rem (.int .i64 (n % 65536)) (.int .i64 (most + 1)) = some (.int .i64 (anyN n most)) := b_rem _ _ _ (by omega)
  have hfin := any_normal (n := n) l h0 h1
  refine pval_has h rfl ?_
  simp only [l22_7, b22, f22]
  simp [-List.getD_eq_getElem?_getD, -Int.ofNat_toNat, -getElem?_pos, er22_0, er22_1, er22_2, er22_3, er22_4, er22_5, er22_6, er22_8, er22_9, hw0, hb]
  generalize hNe : anyN n most = N at *
  refine pc_loopI (fun m st => ∃ (i : Nat) (o p : AV) (H : Heap), i + m = (anyL N l).length ∧ OwnE true 1 H o ((anyL N l).take i) ∧ H[0]? = some (.cells 0 false [.int .i64 0, .nils]) ∧
      st = ([.int .i64 N, v, .int .i64 most, .ptr 0 0 0, o, .int .i64 i, .un, p], H)) (anyL N l).length ⟨0, _, _, _, by simp, own_nil _ _ _, rfl, rfl⟩ ?_
  rintro m st ⟨i, o, p, H, hi, ho, e0, rfl⟩
  by_cases hlt : i < (anyL N l).length
  · have hN0 : 0 < N := by
      rcases Int.lt_or_le 0 N with h | h
      · exact h
      · unfold anyL at hlt; rw [if_neg (by omega)] at hlt; simp at hlt
    have hlt2 : i < l.length ∧ i < 300 := by unfold anyL at hlt; rw [if_pos hN0] at hlt; simp at hlt; omega
    obtain ⟨hl1, hl2⟩ := hlt2
    have hl1' : (i : Int) < l.length := by omega
    have hl2' : (i : Int) < 300 := by omega
    have hg : (anyL N l)[i] = turnE N l[i] := by
      have : anyL N l = (l.take 300).map (turnE N) := by unfold anyL; rw [if_pos hN0]
      simp only [this, List.getElem_map, List.getElem_take]
    obtain ⟨i1, g1', g2', le1, t1⟩ := hv.at hl1
    have hw1 := wrap1 hl2 (by omega)
    have r1 : binV .rem (.int .i64 (l[i].1 % 65536)) (.int .i64 N) = some (.int .i64 (turnE N l[i]).1) := b_rem _ _ _ (by omega)
    have r2 : binV .rem (.int .i64 (l[i].2 % 65536)) (.int .i64 N) = some (.int .i64 (turnE N l[i]).2) := b_rem _ _ _ (by omega)
    obtain ⟨o1, H1, x1, x2, x3, _, _, _⟩ := OwnE.app1 ho (turnE N l[i]).1 (turnE N l[i]).2 (lt_of_get e0) (by simp; omega)
    simp [-List.getD_eq_getElem?_getD, -Int.ofNat_toNat, -getElem?_pos, er22_0, er22_1, er22_2, er22_3, er22_4, er22_5, er22_6, er22_8, er22_9, hlen, hl1', hl2', hl1, hl2, hN0, i1, g1', g2', r1, r2, x1, hw1]
    refine next_mk (m - 1) (by omega) ⟨i + 1, o1, _, H1, by omega, ?_, by rw [x3 0 (by omega)]; exact e0, rfl⟩
    rw [List.take_succ_eq_append_getElem hlt, hg]; exact x2
  · have hm : (anyL N l).take i = anyL N l := List.take_of_length_le (by omega)
    rw [hm] at ho
    have hgu : ¬ ((i < l.length ∧ i < 300) ∧ 0 < N) := by
      rintro ⟨⟨h1, h2⟩, h3⟩
      apply hlt
      unfold anyL; rw [if_pos h3]; simp; omega
    obtain ⟨H', hva, hvl, hvk⟩ := Own.viewA (pre := [.int .i64 N]) (post := []) ho (closeds_cE _) rfl rfl
    have hal := anyL_len N l
    have hNE := (hN N (rE (anyL N l)) (anyL N l) (isE_r _) (by omega)).eq
    have e0' : H'[0]? = some (.cells 0 false [.int .i64 0, .nils]) := by rw [hvk 0 (fun h => by have := (Own.blk ho h).1; omega)]; exact e0
    simp only [List.cons_append, List.nil_append] at hva
    have hcl : (rE (anyE n most l)).closed = true := (isE_r _).closed
    have hone : (rE (anyE n most l)).one = true := (isE_r _).one
    have hcell : (rE (anyE n most l)).cells = [rE (anyE n most l)] := (isE_r _).cells
    have hlr := lt_of_get e0'
    have hset : ∀ z w, ((H' ++ [w]).set 0 z)[0]? = some z := fun z w => List.getElem?_set_self (by simp)
    have e0m := fun w => get_more [w] e0'
    by_cases k1 : i < l.length
    · by_cases k2 : (i : Int) < 300
      · have k3 : ¬ 0 < N := fun h => hgu ⟨⟨k1, by omega⟩, h⟩
        simp [-List.getD_eq_getElem?_getD, -Int.ofNat_toNat, -getElem?_pos, er22_0, er22_1, er22_2, er22_3, er22_4, er22_5, er22_6, er22_8, er22_9, hlen, k1, k2, k3, hva, hNE, nR, hfin, e0', e0m, hone, hcell, hset, hcl, resK, resVs, resV, pack]
      · simp [-List.getD_eq_getElem?_getD, -Int.ofNat_toNat, -getElem?_pos, er22_0, er22_1, er22_2, er22_3, er22_4, er22_5, er22_6, er22_8, er22_9, hlen, k1, k2, hva, hNE, nR, hfin, e0', e0m, hone, hcell, hset, hcl, resK, resVs, resV, pack]
    · simp [-List.getD_eq_getElem?_getD, -Int.ofNat_toNat, -getElem?_pos, er22_0, er22_1, er22_2, er22_3, er22_4, er22_5, er22_6, er22_8, er22_9, hlen, k1, hva, hNE, nR, hfin, e0', e0m, hone, hcell, hset, hcl, resK, resVs, resV, pack]
end Go.Ai.G
namespace Go.Ai.G
open Go.Ai
set_option maxRecDepth 100000
set_option linter.unusedSimpArgs false
set_option linter.unusedVariables false
variable {A : AProg} {φ : Nat → Nat}
attribute [local simp ↓] getD_z getD_s hid_k hid_o hid_q hid_v PO_nil PO_none PO_grd PD_nil PD_none PD_grd PDO_N PDO_X PDO_call PDO_calli PDO_callv PStep_N PStep_X PStep_call PStep_calli PC_skip PC_lab
  PC_ret PC_exit PC_reg PC_draw PC_seq PC_block PC_loop PC_scope PC_cond thenC_norm thenC_ret thenC_exit blockC_norm blockC_ret blockC_exit loopC_norm loopC_ret loopC_exit endR_ret
  endR_norm
attribute [local simp] gz PDX_free PDX_eq PStep_callv resK_none resK_t resK_tt KNO_val KNO_new KNO_ite KNO_map KXO_some KXO_ite KVA_t KVA_f KG_skip KG_tt KG_ff KG_tf KG_ft KB_true KB_false KNOD_val
  KNOD_new KNOD_ite n_mv n_pick n_bin n_eqB n_eqN n_eqS n_un n_conv n_fadd n_faddV n_fld1 n_fldN n_idx n_idxA n_idxV n_idxAV n_ext n_lenS n_lenS0 n_lenV n_lenT n_lenA n_min n_max
  n_build n_mkfn n_slc n_slc0 n_slcV n_slcA n_load1 n_loadN n_load1V n_loadNV n_alloc n_box n_bsl n_mksl n_nilcP n_nilcV n_nilcI n_nilcF x_store x_clear0 x_clear b_add b_sub b_mul
  b_eql b_neq b_lss b_leq b_gtr b_geq b_and16 unV ntouch gather hide unhide evalOpd applyOuts int_bne int_beq ite_bool ite_int one_bool cells_bool one_int cells_int one_str cells_str
  one_nilp cells_nilp one_ptr cells_ptr one_nils cells_nils one_sl cells_sl one_nilf cells_nilf one_fn cells_fn one_nili cells_nili one_mp cells_mp one_nilm cells_nilm one_iface
  cells_iface one_vs cells_vs one_vp cells_vp cells_agg Nat.testBit setAt_1 setAt_2 closeds_nil closeds_cons closed_bool closed_int closed_str closed_nilp closed_nils closed_nilm
  closed_nilf closed_nili closed_agg closed_tup closed_vs closed_vp closed_iface closed_fn closeds_cI closeds_cE viewA_closed viewR_closed AV.scal AV.scal0 fillA repA part_bool
  part_int part_str part_nilp part_ptr part_nils part_sl part_nilm part_mp part_nilf part_fn part_nili part_iface part_agg part_vs part_vp viewA_sl1 vaSl_cells wrap_0 wrap_1 wrap_2
  wrap_m1 set_last get_last
theorem er15_0 (φ : Nat → Nat) : r15_0 φ = [
  ⟨0, .N .box, [.n 0], none, 0⟩,
  ⟨1, .N (.alloc [.int .i64 0, .nils]), [], none, 0⟩,
  ⟨2, .N .mv, [.c (.int .i64 0)], none, 0⟩] := Eq.trans rfl rfl
theorem er15_1 (φ : Nat → Nat) : r15_1 φ = [
  ⟨0, .N (.loadN 2), [.n 3], none, 0⟩,
  ⟨1, .calli true (φ 4), [.l 0], none, 0⟩,
  ⟨2, .N (.un .not), [.l 0], none, 0⟩,
  ⟨3, .N .mv, [.l 0], none, 0⟩] := Eq.trans rfl rfl
theorem er15_2 (φ : Nat → Nat) : r15_2 φ = [
  ⟨0, .N (.build [.int .i64 0, .nils] []), [], none, 0⟩,
  ⟨1, .X (.store 2), [.n 4, .l 0], none, 0⟩,
  ⟨2, .N .mv, [.c (.int .i64 1)], none, 0⟩] := Eq.trans rfl rfl
theorem er15_3 (φ : Nat → Nat) : r15_3 φ = [
  ⟨0, .N .mv, [.n 1], none, 0⟩,
  ⟨1, .N .mv, [.n 2], none, 0⟩,
  ⟨2, .N .min, [.l 1, .l 0], none, 0⟩,
  ⟨3, .N (.bin .lss), [.l 0, .c (.int .i64 0)], none, 0⟩,
  ⟨4, .N .mv, [.l 0], none, 0⟩,
  ⟨5, .N .mv, [.n 1], some (.l 0, false), 0⟩,
  ⟨6, .N .mv, [.n 2], some (.l 1, false), 0⟩,
  ⟨7, .N .max, [.l 1, .l 0], some (.l 2, false), 0⟩,
  ⟨8, .N (.fadd 0), [.n 3], some (.l 3, false), 0⟩,
  ⟨9, .N .load1, [.l 0], some (.l 4, false), 0⟩,
  ⟨10, .N (.bin .geq), [.l 2, .l 0], some (.l 5, false), 0⟩,
  ⟨11, .N .pick, [.l 6, .c (.bool true), .l 0], none, 0⟩,
  ⟨12, .N .mv, [.l 0], none, 0⟩] := Eq.trans rfl rfl
theorem er15_4 (φ : Nat → Nat) : r15_4 φ = [
  ⟨0, .N (.build [.int .i64 0, .nils] []), [], none, 0⟩,
  ⟨1, .X (.store 2), [.n 4, .l 0], none, 0⟩,
  ⟨2, .N .mv, [.c (.int .i64 4)], none, 0⟩] := Eq.trans rfl rfl
theorem er15_5 (φ : Nat → Nat) : r15_5 φ = [
  ⟨0, .N .mv, [.n 1], none, 0⟩,
  ⟨1, .N .mv, [.n 2], none, 0⟩,
  ⟨2, .N (.bin .eql), [.l 1, .l 0], none, 0⟩,
  ⟨3, .N .mv, [.l 0], none, 0⟩] := Eq.trans rfl rfl
theorem er15_6 (φ : Nat → Nat) : r15_6 φ = [
  ⟨0, .N (.build [.int .i64 0, .nils] []), [], none, 0⟩,
  ⟨1, .X (.store 2), [.n 4, .l 0], none, 0⟩,
  ⟨2, .N .mv, [.c (.int .i64 1)], none, 0⟩] := Eq.trans rfl rfl
theorem er15_7 (φ : Nat → Nat) : r15_7 φ = [
  ⟨0, .N (.fadd 0), [.n 3], none, 0⟩,
  ⟨1, .N .load1, [.l 0], none, 1⟩,
  ⟨2, .N (.fadd 1), [.n 3], none, 0⟩,
  ⟨3, .N .load1, [.l 0], none, 4⟩,
  ⟨5, .N .mv, [.n 1], none, 0⟩,
  ⟨6, .N .mv, [.n 2], none, 0⟩,
  ⟨7, .N (.build [.int .i64 0, .int .i64 0] [(0, 1), (1, 1)]), [.l 1, .l 0], none, 48⟩,
  ⟨8, .N (.bsl [.int .i64 0, .int .i64 0] 1 2 [(0, 2)]), [.l 0], none, 112⟩,
  ⟨4, .call (φ 32), [.l 4], none, 12⟩,
  ⟨9, .X (.app 2 16), [.l 0, .l 1], none, 508⟩,
  ⟨10, .calli false (φ 1), [.l 8, .l 0], none, 1023⟩,
  ⟨11, .N (.ext 0), [.l 0], none, 2047⟩,
  ⟨12, .N (.ext 1), [.l 1], none, 2047⟩,
  ⟨13, .X (.store 2), [.n 4, .l 1], none, 8191⟩,
  ⟨14, .N .mv, [.l 1], none, 16383⟩] := Eq.trans rfl rfl
/-- A graph and an error, as answered. -/
abbrev gR (x : Int × List Ed × Int) : AV := .tup [gV x.1 (rE x.2.1), .int .i64 x.2.2]
def addE (n : Int) (es : List Ed) (a b : Int) : Int × List Ed × Int :=
  if rightE n es = false then (0, [], 1) else if min a b < 0 ∨ n ≤ max a b then (0, [], 4) else if a = b then (0, [], 1) else normalE n (es ++ [(a, b)])
theorem addE_def (n : Int) (es : List Ed) (a b : Int) : addE n es a b = if rightE n es = false then (0, [], 1) else if min a b < 0 ∨ n ≤ max a b then (0, [], 4) else if a = b then (0, [], 1) else normalE n (es ++ [(a, b)]) := rfl
abbrev RightC (A : AProg) (f : Nat) : Prop := ∀ n v es, IsE v es → PVal A f [gV n v] (.bool (rightE n es))
abbrev NormalC (A : AProg) (f : Nat) : Prop := ∀ n v l, IsE v l → l.length < 1000000000 → PVal A f [.int .i64 n, v] (nR n l)
theorem rE_closed (es : List Ed) : (rE es).closed = true := (isE_r es).closed
theorem rE_one (es : List Ed) : (rE es).one = true := (isE_r es).one
theorem rE_cells (es : List Ed) : (rE es).cells = [rE es] := (isE_r es).cells
theorem w_Add (h : Has A (φ 15) (f15 φ)) (h2 : RightC A (φ 4)) (h3 : NormalC A (φ 1)) (h4 : Has A (φ 32) (f32 φ)) (n a b : Int) (v : AV) (es : List Ed) (hv : IsE v es) :
    PVal A (φ 15) [gV n v, .int .i64 a, .int .i64 b] (gR (addE n es a b)) := by
  have hone := hv.one
  have hcl := hv.closed
  have hr := (h2 n v es hv).eq
  have m1 := minV_i a b
  have m2 := maxV_i a b
  have hdef := addE_def n es a b
  generalize min a b = mn at *
  generalize max a b = mx at *
  refine pval_has h rfl ?_
  simp only [b15, f15]
  by_cases hR : rightE n es = true
  · have hl := right_len hR
    by_cases c1 : mn < 0
    · have hf : addE n es a b = (0, [], 4) := by rw [hdef, hR]; rw [if_neg (by simp), if_pos (.inl c1)]
      simp [-List.getD_eq_getElem?_getD, -Int.ofNat_toNat, -getElem?_pos, er15_0, er15_1, er15_2, er15_3, er15_4, er15_5, er15_6, er15_7, hone, hcl, hr, hR, foldV, m1, m2, c1, hf, rv, resK, resVs, resV, pack, viewG0]
    by_cases c2 : n ≤ mx
    · have hf : addE n es a b = (0, [], 4) := by rw [hdef, hR]; rw [if_neg (by simp), if_pos (.inr c2)]
      simp [-List.getD_eq_getElem?_getD, -Int.ofNat_toNat, -getElem?_pos, er15_0, er15_1, er15_2, er15_3, er15_4, er15_5, er15_6, er15_7, hone, hcl, hr, hR, foldV, m1, m2, c1, c2, hf, rv, resK, resVs, resV, pack, viewG0]
    by_cases c3 : a = b
    · have hf : addE n es a b = (0, [], 1) := by rw [hdef, hR]; rw [if_neg (by simp), if_neg (by omega), if_pos c3]
      subst c3
      simp [-List.getD_eq_getElem?_getD, -Int.ofNat_toNat, -getElem?_pos, er15_0, er15_1, er15_2, er15_3, er15_4, er15_5, er15_6, er15_7, hone, hcl, hr, hR, foldV, m1, m2, c1, c2, hf, rv, resK, resVs, resV, pack, viewG0]
    have hf : addE n es a b = normalE n (es ++ [(a, b)]) := by rw [hdef, hR]; rw [if_neg (by simp), if_neg (by omega), if_neg c3]
    simp [-List.getD_eq_getElem?_getD, -Int.ofNat_toNat, -getElem?_pos, er15_0, er15_1, er15_2, er15_3, er15_4, er15_5, er15_6, er15_7, hone, hcl, hr, hR, foldV, m1, m2, c1, c2, c3]
    refine w_Clone h4 hv (by omega) fun nl v' H' x1 x2 x3 => ?_
    simp only [hid_k]
    have e0 : H'[0]? = some (.cells 0 false [.int .i64 n, v]) := by rw [x2 0 (by simp)]; rfl
    have e1 : H'[1]? = some (.cells 0 false [.int .i64 0, .nils]) := by rw [x2 1 (by simp)]; rfl
    simp only [List.length_cons, List.length_nil, Nat.zero_add, Nat.reduceAdd] at x3 x1
    refine ⟨fun b hb => by simp at hb; subst hb; exact e0, ?_⟩
    have x1' : OwnE nl 3 (H'.set 2 (.cells 0 false [.int .i64 a, .int .i64 b])) v' es := Own.keep x1 fun b hb hbv => List.getElem?_set_ne (by have := (Own.blk x1 hbv).1; omega)
    have e0' : (H'.set 2 (.cells 0 false [.int .i64 a, .int .i64 b]))[0]? = some (.cells 0 false [.int .i64 n, v]) := by rw [List.getElem?_set_ne (by omega)]; exact e0
    have e1' : (H'.set 2 (.cells 0 false [.int .i64 a, .int .i64 b]))[1]? = some (.cells 0 false [.int .i64 0, .nils]) := by rw [List.getElem?_set_ne (by omega)]; exact e1
    have e2' : (H'.set 2 (.cells 0 false [.int .i64 a, .int .i64 b]))[2]? = some (.cells 0 false [.int .i64 a, .int .i64 b]) := List.getElem?_set_self (by omega)
    simp only [hid_k, List.getD_cons_succ, List.getD_cons_zero]
    generalize H'.set 2 (.cells 0 false [.int .i64 a, .int .i64 b]) = H2 at *
    clear e0 e1 x1 x2 x3
    have hsrc : srcCells H2 2 (.sl 2 0 0 1 2 1 true) = some (1, [.int .i64 a, .int .i64 b]) := by simp [srcCells, rdSl, e2']
    obtain ⟨w, H3, y1, y2, y3, y4, y5⟩ := Own.app (bytes := 16) x1' hsrc rfl rfl (lt_of_get e2') (by omega)
    have y2' : OwnE nl 3 H3 w (es ++ [(a, b)]) := by rw [OwnE, cellsE_append]; simpa [cellsE] using y2
    have hlow : ∀ b, b < 3 → H3[b]? = H2[b]? := fun b hb => y3 b (by have := lt_of_get e2'; omega) (fun h => by have := (Own.blk x1' h).1; omega)
    obtain ⟨H4, hva, hvl, hvk⟩ := Own.viewA (pre := [.int .i64 n]) (post := []) y2' (closeds_cE _) rfl rfl
    simp only [List.cons_append, List.nil_append] at hva
    have z1 : H4[1]? = some (.cells 0 false [.int .i64 0, .nils]) := by rw [hvk 1 (fun h => by have := (Own.blk y2' h).1; omega), hlow 1 (by omega)]; exact e1'
    have hNE := (h3 n _ (es ++ [(a, b)]) (is_rv (nl := nl) (cellsE_length _) (closeds_cE _)) (by simp; omega)).eq
    rw [show (es ++ [(a, b)]).length = es.length + 1 by simp] at hNE hva
    have hl0 := hlow 0 (by omega)
    have hset : ∀ z, (H4.set 1 z)[1]? = some z := fun z => List.getElem?_set_self (lt_of_get z1)
    simp [-List.getD_eq_getElem?_getD, -Int.ofNat_toNat, -getElem?_pos, er15_0, er15_1, er15_2, er15_3, er15_4, er15_5, er15_6, er15_7, y1, hva, hNE, hl0, nR, z1, rE_one, rE_cells, rE_closed, hset, resK, resVs, resV, pack, hf]
  · simp only [Bool.not_eq_true] at hR
    have hf : addE n es a b = (0, [], 1) := by rw [hdef, if_pos hR]
    simp [-List.getD_eq_getElem?_getD, -Int.ofNat_toNat, -getElem?_pos, er15_0, er15_1, er15_2, er15_3, er15_4, er15_5, er15_6, er15_7, hone, hcl, hr, hR, hf, rv, resK, resVs, resV, pack, viewG0]
theorem right_strict {n : Int} {es : List Ed} (h : rightE n es = true) : es.Pairwise ltE := by
  unfold rightE at h
  simp only [Bool.and_eq_true] at h
  have hs := List.all_eq_true.1 h.2
  have hadj : ∀ i (hi : i + 1 < es.length), ltE es[i] es[i + 1] := by
    intro i hi
    have := hs (i + 1) (List.mem_range.2 hi)
    simp only [stepE, List.getD_eq_getElem?_getD, List.getElem?_eq_getElem hi, List.getElem?_eq_getElem (show i < es.length by omega), Option.getD_some, Bool.and_eq_true, Bool.or_eq_true, beq_iff_eq, decide_eq_true_eq, Nat.add_sub_cancel] at this
    rcases this.2 with h | h
    · omega
    · exact (cmpE_neg _ _).1 h
  rw [List.pairwise_iff_getElem]
  intro i j hi hj hij
  obtain ⟨d, rfl⟩ : ∃ d, j = i + 1 + d := ⟨j - i - 1, by omega⟩
  clear hij
  induction d with
  | zero => exact hadj i hj
  | succ d ih => exact ltE_trans (ih (by omega)) (hadj (i + 1 + d) hj)
end Go.Ai.G
