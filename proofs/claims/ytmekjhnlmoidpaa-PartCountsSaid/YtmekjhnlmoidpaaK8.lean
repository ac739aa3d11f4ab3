/- A part of what the law leans on: the abstract machine, the contracts, the rows. -/
import Derived.Test.YtmekjhnlmoidpaaK5
import Derived.Test.YtmekjhnlmoidpaaK1
import Derived.Shelf.SlSortCmp.NoneTotal
import Derived.Test.YtmekjhnlmoidpaaK6
/- slices.SortFunc at edges, in the abstract machine: the shelf's contract carried over. -/
namespace Go.Ai
set_option linter.unusedSectionVars false
variable [DrMode]
set_option linter.unusedVariables false
set_option linter.unusedSimpArgs false
open Go.Sort Go.Proofs

theorem ltE (x y : Ed) : Go.Proofs.ltOf cmpE x y = !edgeLe y x := by
  unfold Go.Proofs.ltOf cmpE edgeLe cmpI
  by_cases h1 : x.1 < y.1
  · simp [h1]
    try omega
  · by_cases h2 : x.1 > y.1
    · simp [h1, h2]; try omega
    · by_cases h3 : x.2 < y.2
      · simp [h1, h2, h3]
        try omega
      · by_cases h4 : x.2 > y.2
        · simp [h1, h2, h3, h4]; try omega
        · simp [h1, h2, h3, h4]
          try omega
/-- A world that has grown, and drawn. -/
def Grown (w w' : World) : Prop := ∃ q os', w' = grow (w.drewN q) os'
theorem grown_of {w w' : World} (h1 : w.heap.size ≤ w'.heap.size) (h2 : ∀ k, k < w.heap.size → w'.heap[k]? = w.heap[k]?) (h3 : w'.os = w.os) (h4 : w'.tape = w.tape) (h5 : w'.output = w.output) (h6 : w.drawn ≤ w'.drawn) : Grown w w' := by
  refine ⟨w'.drawn - w.drawn, w'.heap.extract w.heap.size w'.heap.size, ?_⟩
  obtain ⟨hp, tp, dr, os, out⟩ := w
  obtain ⟨hp', tp', dr', os', out'⟩ := w'
  simp only at h1 h2 h3 h4 h5 h6
  subst h3; subst h4; subst h5
  simp only [grow, World.drewN, World.mk.injEq, true_and, and_true]
  refine ⟨?_, by omega⟩
  apply Array.ext_getElem?
  intro i
  rw [Array.getElem?_append]
  by_cases hi : i < hp.size
  · rw [if_pos hi]; exact h2 i hi
  · rw [if_neg hi, Array.getElem?_extract]
    simp only [Nat.min_self]
    by_cases hi2 : i < hp'.size
    · rw [if_pos (by omega)]
      congr 1; omega
    · rw [if_neg (by omega), Array.getElem?_eq_none (by omega)]
theorem swoE : SWO (Go.Proofs.ltOf cmpE) where
  irrefl x := by rw [ltE]; simp [edgeLe]
  trans x y z h1 h2 := by rw [ltE] at *; simp [edgeLe] at *; omega
  ntrans x y z h1 h2 := by rw [ltE] at *; simp [edgeLe] at *; omega

theorem cellsE_get : ∀ (es : List Ed) (i : Nat) (h : i < es.length), (cellsE es)[i * 2]? = some (.int .i64 es[i].1) ∧ (cellsE es)[i * 2 + 1]? = some (.int .i64 es[i].2)
  | x :: l, 0, _ => by simp [cellsE]
  | x :: l, i + 1, h => by
    have := cellsE_get l i (by simpa using h)
    simp only [cellsE, List.getElem_cons_succ]
    rw [show (i + 1) * 2 = i * 2 + 1 + 1 by omega, show i * 2 + 1 + 1 + 1 = (i * 2 + 1) + 1 + 1 by omega]
    simp only [List.getElem?_cons_succ]
    exact this
theorem cellsE_flat (es : List Ed) (j : Nat) (h : j < es.length * 2) : ∃ k, (cellsE es)[j]? = some (.int .i64 k) ∧ (flatK encE 2 es.toArray)[j]! = .int .i64 k := by
  have hj2 : j / 2 < es.length := by omega
  have e : (es.toArray)[j / 2]! = es[j / 2] := by simp [hj2]
  obtain ⟨c0, c1⟩ := cellsE_get es (j / 2) hj2
  rw [get_flatK _ _ _ _ (by simpa using h), e]
  rcases Nat.mod_two_eq_zero_or_one j with h2 | h2
  · rw [h2]
    rw [show j / 2 * 2 = j by omega] at c0
    exact ⟨_, c0, rfl⟩
  · rw [h2]
    rw [show j / 2 * 2 + 1 = j by omega] at c1
    exact ⟨_, c1, rfl⟩
theorem sortWorld_cell {w : World} {blk off m : Nat} {d : Array Ed} {os : Array Obj} (hb : blk < w.heap.size) (i : Nat) :
    (sortWorldK encE 2 w blk off m d os).cell? ⟨blk, i, none⟩ = (w.cell? ⟨blk, i, none⟩).map (fun x => if off ≤ i ∧ i < off + d.size * 2 then (flatK encE 2 d)[i - off]! else x) ∧
    (sortWorldK encE 2 w blk off m d os).frozen? ⟨blk, i, none⟩ = w.frozen? ⟨blk, i, none⟩ := by
  unfold sortWorldK
  rw [cell?_grow _ _ _ (by rw [size_putRowK]; exact hb), frozen?_grow _ _ _ (by rw [size_putRowK]; exact hb)]
  unfold putRowK putRow mapBlock World.cell? World.frozen?
  simp only [Array.getElem?_modify, if_true, Go.Sort.ahead]
  cases hh : w.heap[blk]? with
  | none => simp
  | some o =>
    cases o with
    | cells c e fr =>
      refine ⟨?_, rfl⟩
      simp only [Option.map_some, onCells, Option.isSome_none, Bool.false_eq_true, if_false, putCells, Array.getElem?_mapIdx, size_flatK]
      cases c[i]? with
      | none => rfl
      | some x => simp only [Option.map_some, id]
    | _ => exact ⟨rfl, rfl⟩
theorem sortWorld_other {w : World} {blk off m : Nat} {d : Array Ed} {os : Array Obj} (k : Nat) (hk : k ≠ blk) (hl : k < w.heap.size) : (sortWorldK encE 2 w blk off m d os).heap[k]? = w.heap[k]? := by
  unfold sortWorldK
  rw [heap_grow_old _ _ (by rw [size_putRowK]; exact hl)]
  unfold putRowK putRow mapBlock
  simp only [Array.getElem?_modify]
  rw [if_neg (fun h => hk h.symm)]
  rfl

def sortExt (fc : Nat) (args : List AV) (H : Heap) : Option (Out AV) :=
  match args with
  | [.nils, .fn (.func f) [] []] => if f = fc then some (.ok (.tup []) H) else none
  | [.sl b g o n sz cl ex, .fn (.func f) [] []] => if f = fc ∧ sz = 2 ∧ 0 < n ∧ n < 1000000000000 then (match H[b]? with
    | some (.cells g' false c) => if g' = g ∧ o + n * 2 ≤ c.length then (match decE n ((c.drop o).take (n * 2)) with
        | some es => some (.ok (.tup []) (H.set b (.cells g false (setAt c o (cellsE (isortE es))))))
        | none => none) else none
    | _ => none) else none
  | _ => none
def Orders (P : Program) (fc : Nat) : Prop := ∀ (x y : Ed) (W : World), Calls P fc #[.agg (encE x).toArray, .agg (encE y).toArray] W fun e w' => e = .returned (.int .i64 (cmpE x y)) ∧ Grown W w'
theorem sort_ext {P : Program} {ρ : Go.Shelf.Ren} (L : SlLaysF0.n6 P ρ) (aE : ∀ w, (isAgg (ρ.t 24)).run P w = .ok true w) (zE : ∀ w, (Go.sizeOf (ρ.t 24)).run P w = .ok 2 w) {fc : Nat} (hc : Orders P fc) (ec : Enters P fc) (es6 : Enters P (ρ.f 6)) :
    ∀ args H out, sortExt fc args H = some out → Enters P (ρ.f 6) ∧ H.length ≤ out.heap.length ∧ ∀ B μ w us, HR B μ H w → VRs μ args us → Calls P (ρ.f 6) us.toArray w (OutR B μ H w out) := by
  intro args H out h
  refine ⟨es6, ?_⟩
  unfold sortExt at h
  split at h
  · split at h
    · rename_i f hf
      subst hf
      cases h
      refine ⟨Nat.le_refl _, fun B μ w us hH hv => ?_⟩
      obtain ⟨u1, t1, rfl, h1, hv⟩ := hv.cases_cons
      obtain ⟨u2, t2, rfl, h2, hv⟩ := hv.cases_cons
      have := hv.cases_nil; subst this
      cases h1
      refine (AnyF.slices_SortFunc_none L none 0 u2 w).mono ?_
      rintro e w' ⟨rfl, rfl⟩
      exact ⟨_, μ, rfl, VR.skipped μ, hH, Ext.refl _ _ _⟩
    · cases h
  · split at h
    · rename_i b g o n sz cl ex f hcnd
      obtain ⟨rfl, rfl, hn, hlt⟩ := hcnd
      split at h
      · rename_i g' c hb
        split at h
        · rename_i hg
          obtain ⟨rfl, hlen⟩ := hg
          split at h
          · rename_i es hes
            cases h
            refine ⟨by simp [Out.heap], fun B μ w us hH hv => ?_⟩
            obtain ⟨u1, t1, rfl, h1, hv⟩ := hv.cases_cons
            obtain ⟨u2, t2, rfl, h2, hv⟩ := hv.cases_cons
            have := hv.cases_nil; subst this
            obtain ⟨hel, hec⟩ := decE_spec _ _ _ hes
            obtain ⟨a, ha, hob⟩ := hH.ob b _ hb (by simp)
            simp only [Ob.gen] at ha
            cases h1 with
            | @sl _ _ _ _ _ _ cc _ p hn1 hc1 he1 hp =>
              obtain ⟨a2, ha2, rfl, _⟩ := hp (by omega)
              rw [ha] at ha2; cases ha2
              cases h2 with
              | @fn _ _ _ f1 c1 k1 k2 k3 k4 =>
                have : f1 = [] := List.length_eq_zero_iff.1 k1.symm
                subst this
                have : c1 = [] := List.length_eq_zero_iff.1 k3.symm
                subst this
                obtain ⟨hbl, hce, hcells, _, hrw⟩ := hob
                obtain ⟨hB, hrw⟩ := hrw rfl
                have hco : ∀ j, j < n * 2 → c[o + j]? = (cellsE es)[j]? := by
                  intro j hj
                  rw [← hec, List.getElem?_take, if_pos hj, List.getElem?_drop]
                have hH0 : HoldsK encE 2 w a.blk (a.off + o) es.toArray := by
                  intro j hj
                  rw [size_flatK] at hj
                  simp only [List.size_toArray] at hj
                  obtain ⟨k, e1, e2⟩ := cellsE_flat es j hj
                  rw [← hco j (by omega)] at e1
                  obtain ⟨u, hu, hvu⟩ := hcells _ _ e1
                  cases hvu
                  refine ⟨?_, ?_⟩
                  · rw [Nat.add_assoc, hu, e2]; rfl
                  · rw [Nat.add_assoc]
                    exact (hrw (o + j) (by omega)).2
                have hcon := AnyQ.slices_SortFunc_total L 2 aE zE encE (fun _ => rfl) (fun x v hv => by simp [encE] at hv; rcases hv with rfl | rfl <;> rfl) cmpE swoE f #[] a.blk (a.off + o) cc es.toArray w (fun args w => ec args w)
                  (fun m os dk hs x y => by rw [Array.append_empty]; exact hc x y _) hH0 hbl (by simp; omega) (fun x y h1 h2 => by rw [ltE] at h1 h2; simp at h1 h2; exact edgeLe_anti _ _ h2 h1)
                have hsz : es.toArray.size = n := by simp [hel]
                rw [hsz] at hcon
                refine hcon.mono ?_
                rintro e w' ⟨rfl, m, os, rfl⟩
                have es' : (es.toArray.toList.mergeSort fun x y => !(ltOf cmpE) y x) = isortE es := by
                  rw [← merge_isort]
                  congr 1
                  funext x y
                  rw [ltE, Bool.not_not]
                rw [es']
                have hil : (isortE es).length = n := by rw [(isortE_perm es).length_eq, hel]
                have hcl : (cellsE (isortE es)).length = n * 2 := by rw [cellsE_length, hil]
                refine ⟨.tuple #[], μ, rfl, VR.skipped μ, ?_⟩
                refine hH.repl (a1 := a) hb ha (Mu.le_refl μ) ha (fun _ _ _ => rfl) (fun g' x hx => hH.gen b _ g' x hb (by simp) hx) (.inl rfl) (fun k hk hne => sortWorld_other k hne hk) (size_sortWorldK_c encE 2 w a.blk _ m _ os) rfl rfl rfl (by show w.drawn ≤ w.drawn + m; omega) ?_ rfl
                have hsl : (setAt c o (cellsE (isortE es))).length = c.length := by simp [setAt, hcl]; omega
                refine ⟨Nat.lt_of_lt_of_le hbl (size_sortWorldK_c encE 2 w a.blk _ m _ os), by rw [hsl]; exact hce, ?_, fun h => (by cases h), fun _ => ⟨hB, fun i hi => ?_⟩⟩
                · intro i v hv
                  rw [(sortWorld_cell hbl _).1]
                  simp only [List.size_toArray, hil]
                  by_cases hin : o ≤ i ∧ i < o + n * 2
                  · obtain ⟨k, e1, e2⟩ := cellsE_flat (isortE es) (i - o) (by omega)
                    have : (setAt c o (cellsE (isortE es)))[i]? = (cellsE (isortE es))[i - o]? := by
                      simp only [setAt]
                      rw [List.append_assoc, List.getElem?_append_right (by simp; omega), List.getElem?_append_left (by simp [hcl]; omega)]
                      congr 1; simp; omega
                    rw [this, e1] at hv
                    cases hv
                    obtain ⟨⟨u, hu⟩, _⟩ := hrw i (by omega)
                    rw [hu]
                    refine ⟨_, rfl, ?_⟩
                    simp only
                    rw [if_pos (by omega), show a.off + i - (a.off + o) = i - o by omega, e2]
                    exact .int _ _
                  · have : (setAt c o (cellsE (isortE es)))[i]? = c[i]? := by
                      simp only [setAt]
                      rw [List.append_assoc]
                      by_cases hi : i < o
                      · rw [List.getElem?_append_left (by simp; omega), List.getElem?_take, if_pos hi]
                      · rw [List.getElem?_append_right (by simp; omega), List.getElem?_append_right (by simp [hcl]; omega), List.getElem?_drop]
                        congr 1; simp [hcl]; omega
                    rw [this] at hv
                    obtain ⟨u, hu, hvu⟩ := hcells i v hv
                    rw [hu]
                    refine ⟨_, rfl, ?_⟩
                    simp only
                    rw [if_neg (by omega)]
                    exact hvu
                · rw [(sortWorld_cell hbl _).1, (sortWorld_cell hbl _).2]
                  obtain ⟨⟨u, hu⟩, hf⟩ := hrw i hi
                  rw [hu]
                  exact ⟨⟨_, rfl⟩, hf⟩
          · cases h
        · cases h
      · cases h
    · cases h
  · cases h
end Go.Ai
namespace Go.Ai.G
open Go.Ai
set_option maxRecDepth 100000
set_option linter.unusedSimpArgs false
set_option linter.unusedVariables false
variable {A : AProg} {φ : Nat → Nat}
attribute [local simp ↓] getD_z getD_s hid_k hid_o hid_q hid_v PO_nil PO_none PO_grd PD_nil PD_none PD_grd PDO_N PDO_X PDO_call PDO_calli PDO_callv PStep_N PStep_X PStep_call PStep_calli PC_skip PC_lab
  PC_ret PC_exit PC_reg PC_draw PC_seq PC_block PC_loop PC_scope PC_cond thenC_norm thenC_ret thenC_exit blockC_norm blockC_ret blockC_exit loopC_norm loopC_ret loopC_exit endR_ret
  endR_norm
attribute [local simp] gz PDX_free PDX_eq PStep_callv resK_none resK_t resK_tt KNO_val KNO_new KNO_ite KNO_map KXO_some KXO_ite KVA_t KVA_f KG_skip KG_tt KG_ff KG_tf KG_ft KB_true KB_false KNOD_val
  KNOD_new KNOD_ite n_mv n_pick n_bin n_eqB n_eqN n_eqS n_un n_conv n_fadd n_faddV n_fld1 n_fldN n_idx n_idxA n_idxV n_idxAV n_ext n_lenS n_lenS0 n_lenV n_lenT n_lenA n_min n_max
  n_build n_mkfn n_slc n_slc0 n_slcV n_slcA n_load1 n_loadN n_load1V n_loadNV n_alloc n_box n_bsl n_mksl n_nilcP n_nilcV n_nilcI n_nilcF x_store x_clear0 x_clear b_add b_sub b_mul
  b_eql b_neq b_lss b_leq b_gtr b_geq b_and16 unV ntouch gather hide unhide evalOpd applyOuts int_bne int_beq ite_bool ite_int one_bool cells_bool one_int cells_int one_str cells_str
  one_nilp cells_nilp one_ptr cells_ptr one_nils cells_nils one_sl cells_sl one_nilf cells_nilf one_fn cells_fn one_nili cells_nili one_mp cells_mp one_nilm cells_nilm one_iface
  cells_iface one_vs cells_vs one_vp cells_vp cells_agg Nat.testBit setAt_1 setAt_2 closeds_nil closeds_cons closed_bool closed_int closed_str closed_nilp closed_nils closed_nilm
  closed_nilf closed_nili closed_agg closed_tup closed_vs closed_vp closed_iface closed_fn closeds_cI closeds_cE viewA_closed viewR_closed AV.scal AV.scal0 fillA repA part_bool
  part_int part_str part_nilp part_ptr part_nils part_sl part_nilm part_mp part_nilf part_fn part_nili part_iface part_agg part_vs part_vp viewA_sl1 vaSl_cells wrap_0 wrap_1 wrap_2
  wrap_m1 set_last get_last
def RdE (c : List AV) (o : Nat) (es : List Ed) : Prop := ∀ i (h : i < es.length), c[o + i * 2]? = some (.int .i64 es[i].1) ∧ c[o + i * 2 + 1]? = some (.int .i64 es[i].2)
/-- A slice that reads as these edges. -/
def RdV (nl : Bool) (H : Heap) (v : AV) (es : List Ed) : Prop := (v = .nils ∧ es = [] ∧ nl = true) ∨ ((nl = true → 0 < es.length) ∧ ∃ b g o cl ex ro c, v = .sl b g o es.length 2 cl ex ∧ H[b]? = some (.cells g ro c) ∧ RdE c o es)
theorem RdE_cells (es : List Ed) : RdE (cellsE es) 0 es := fun i h => by have := cellsE_get es i h; simpa using this
theorem RdE_take {c : List AV} {o : Nat} {es : List Ed} (h : RdE c o es) (h0 : 0 < es.length) : o + es.length * 2 ≤ c.length ∧ (c.drop o).take (es.length * 2) = cellsE es := by
  have hle : o + es.length * 2 ≤ c.length := by
    obtain ⟨_, h2⟩ := h (es.length - 1) (by omega)
    have := (List.getElem?_eq_some_iff.1 h2).1
    omega
  refine ⟨hle, List.ext_getElem? fun j => ?_⟩
  rw [List.getElem?_take]
  by_cases hj : j < es.length * 2
  · rw [if_pos hj, List.getElem?_drop]
    obtain ⟨k1, k2⟩ := h (j / 2) (by omega)
    obtain ⟨m1, m2⟩ := cellsE_get es (j / 2) (by omega)
    rcases Nat.mod_two_eq_zero_or_one j with h2 | h2
    · rw [show o + j / 2 * 2 = o + j by omega] at k1
      rw [show j / 2 * 2 = j by omega] at m1
      rw [k1, m1]
    · rw [show o + j / 2 * 2 + 1 = o + j by omega] at k2
      rw [show j / 2 * 2 + 1 = j by omega] at m2
      rw [k2, m2]
  · rw [if_neg hj, List.getElem?_eq_none (by rw [cellsE_length]; omega)]
theorem RdV.len {nl : Bool} {H : Heap} {v : AV} {es : List Ed} (h : RdV nl H v es) (rd : Nat → Option Ob) : nstep .lenS [v] rd = some (.val (.int .i64 es.length)) := by
  rcases h with ⟨rfl, rfl, _⟩ | ⟨_, b, g, o, cl, ex, ro, c, rfl, _, _⟩ <;> rfl
theorem RdV.one {nl : Bool} {H : Heap} {v : AV} {es : List Ed} (h : RdV nl H v es) : v.one = true := by
  rcases h with ⟨rfl, rfl, _⟩ | ⟨_, b, g, o, cl, ex, ro, c, rfl, _, _⟩ <;> rfl
theorem RdV.cells {nl : Bool} {H : Heap} {v : AV} {es : List Ed} (h : RdV nl H v es) : v.cells = [v] := by
  rcases h with ⟨rfl, rfl, _⟩ | ⟨_, b, g, o, cl, ex, ro, c, rfl, _, _⟩ <;> rfl
theorem RdV.part {nl : Bool} {H : Heap} {v : AV} {es : List Ed} (h : RdV nl H v es) : v.part = true := by
  rcases h with ⟨rfl, rfl, _⟩ | ⟨_, b, g, o, cl, ex, ro, c, rfl, _, _⟩ <;> rfl
theorem OwnE.rd {nl : Bool} {P : Nat} {H : Heap} {v : AV} {es : List Ed} (h : OwnE nl P H v es) (hb : nl = false → 0 < es.length) : RdV nl H v es := by
  rcases h with ⟨h0, _, h⟩ | ⟨h0, b, g, ex, rfl, h1, h2, h3⟩
  · cases nl
    · have := hb rfl; omega
    · exact .inl ⟨h, List.length_eq_zero_iff.1 h0, rfl⟩
  · exact .inr ⟨fun _ => h0, b, g, 0, _, ex, false, _, rfl, h3, RdE_cells es⟩
/-- As a value, within what a function answers. -/
theorem RdV.reach {nl : Bool} {H : Heap} {v : AV} {es : List Ed} (h : RdV nl H v es) (k : Nat) : reachV H (k + 1) v = [] ∨ ∃ b, blkOf v = some b ∧ reachV H (k + 1) v = [b] := by
  rcases h with ⟨rfl, rfl, _⟩ | ⟨_, b, g, o, cl, ex, ro, c, rfl, hb, hr⟩
  · exact .inl (reachV_closed _ rfl)
  · by_cases h0 : es.length = 0
    · left; rw [h0, reachV_sl0]
    · right
      refine ⟨b, by simp [blkOf, h0], ?_⟩
      obtain ⟨_, h2⟩ := RdE_take hr (by omega)
      simp only [reachV, AV.closed, Bool.false_eq_true, if_false, reachOne, if_neg h0, hb, h2]
      rw [reachL_closed _ (closeds_cE es)]
theorem RdV.seen {nl : Bool} {H H' : Heap} {v : AV} {es : List Ed} (h : RdV nl H v es) (k : Nat) (hH : ∀ b, blkOf v = some b → ∀ g ro c, H[b]? = some (.cells g ro c) → H'[b]? = some (.cells g true c)) : viewV H' (k + 2) v = some (rv nl es.length 2 (cellsE es)) := by
  rcases h with ⟨rfl, rfl, rfl⟩ | ⟨hn, b, g, o, cl, ex, ro, c, rfl, hb, hr⟩
  · rw [viewV_closed _ rfl]; simp [rv]
  · by_cases h0 : es.length = 0
    · cases nl
      · rw [h0, viewV_sl0]
        have : es = [] := List.length_eq_zero_iff.1 h0
        subst this
        simp [rv, cellsE]
      · have := hn rfl; omega
    · obtain ⟨h1, h2⟩ := RdE_take hr (by omega)
      have hb' := hH b (by simp [blkOf, h0]) g ro c hb
      conv => lhs; simp only [viewV]
      simp only [AV.closed, Bool.false_eq_true, if_false, viewOne, if_neg h0, hb']
      rw [if_pos ⟨trivial, h1⟩, h2, viewL_closed _ (closeds_cE es)]
      simp [rv, h0]
/-- Alike edges that stand side by side are one. -/
def compactE : List Ed → List Ed
  | [] => []
  | [x] => [x]
  | x :: y :: l => if x = y then compactE (y :: l) else x :: compactE (y :: l)
theorem RdE.take {c : List AV} {o : Nat} {es : List Ed} (h : RdE c o es) (k : Nat) : RdE c o (es.take k) := by
  intro i hi
  simp at hi
  obtain ⟨h1, h2⟩ := h i (by omega)
  simp only [List.getElem_take]
  exact ⟨h1, h2⟩
def okEnds (n : Int) (x : Ed) : Bool := decide (0 ≤ min x.1 x.2) && decide (max x.1 x.2 < n)
def normsE (l : List Ed) : List Ed := (l.filter fun x => decide (x.1 ≠ x.2)).map fun x => (min x.1 x.2, max x.1 x.2)
/-- What graph.Normal answers: the graph's vertices, its edges, and the error. -/
def normalE (n : Int) (l : List Ed) : Int × List Ed × Int :=
  if n < 0 then (0, [], 1) else if n > 1000 then (0, [], 5) else if l.all (okEnds n) then
    (if (compactE (isortE (normsE l))).length > 4000 then (0, [], 5) else (n, compactE (isortE (normsE l)), 0))
  else (0, [], 4)
/-! ### What graph.Normal makes of edges hangs on their set alone -/
def ltE (x y : Ed) : Prop := x.1 < y.1 ∨ x.1 = y.1 ∧ x.2 < y.2
theorem ltE_irrefl (x : Ed) : ¬ ltE x x := by unfold ltE; omega
theorem ltE_trans {x y z : Ed} (h : ltE x y) (k : ltE y z) : ltE x z := by unfold ltE at *; omega
theorem le_ne {x y : Ed} (h : edgeLe x y = true) (hn : ¬ x = y) : ltE x y := by
  obtain ⟨a, b⟩ := x
  obtain ⟨c, d⟩ := y
  simp [edgeLe, ltE] at *
  omega
theorem compactE_mem : ∀ (l : List Ed) (x : Ed), x ∈ compactE l ↔ x ∈ l
  | [], x => by simp [compactE]
  | [y], x => by simp [compactE]
  | y :: z :: l, x => by
    have ih := compactE_mem (z :: l) x
    simp only [compactE]
    split
    · rename_i h; subst h; rw [ih]; simp
    · rw [List.mem_cons, ih]; simp only [List.mem_cons]
theorem compactE_strict : ∀ (l : List Ed), l.Pairwise (fun a b => edgeLe a b = true) → (compactE l).Pairwise ltE
  | [], _ => by simp [compactE]
  | [y], _ => by simp [compactE]
  | y :: z :: l, h => by
    have hz := List.Pairwise.of_cons h
    have ih := compactE_strict (z :: l) hz
    simp only [compactE]
    split
    · exact ih
    · rename_i hyz
      refine List.Pairwise.cons (fun w hw => ?_) ih
      rw [compactE_mem] at hw
      have h1 : ltE y z := le_ne (List.rel_of_pairwise_cons h (List.mem_cons_self ..)) hyz
      rcases List.mem_cons.1 hw with rfl | hw
      · exact h1
      · have h2 := List.rel_of_pairwise_cons hz hw
        obtain ⟨a, b⟩ := y
        obtain ⟨c, d⟩ := z
        obtain ⟨p, q⟩ := w
        simp [edgeLe, ltE] at *
        omega
theorem strict_eq : ∀ (l m : List Ed), l.Pairwise ltE → m.Pairwise ltE → (∀ x, x ∈ l ↔ x ∈ m) → l = m
  | [], [], _, _, _ => rfl
  | [], y :: m, _, _, h => by have := (h y).2 (List.mem_cons_self ..); simp at this
  | x :: l, [], _, _, h => by have := (h x).1 (List.mem_cons_self ..); simp at this
  | x :: l, y :: m, hl, hm, h => by
    have e : x = y := by
      rcases List.mem_cons.1 ((h x).1 (List.mem_cons_self ..)) with e | e
      · exact e
      · rcases List.mem_cons.1 ((h y).2 (List.mem_cons_self ..)) with e2 | e2
        · exact e2.symm
        · exact absurd (ltE_trans (List.rel_of_pairwise_cons hl e2) (List.rel_of_pairwise_cons hm e)) (ltE_irrefl _)
    subst e
    rw [strict_eq l m (List.Pairwise.of_cons hl) (List.Pairwise.of_cons hm) fun z => ?_]
    constructor
    · intro hz
      rcases List.mem_cons.1 ((h z).1 (List.mem_cons_of_mem _ hz)) with e | e
      · subst e; exact absurd (List.rel_of_pairwise_cons hl hz) (ltE_irrefl _)
      · exact e
    · intro hz
      rcases List.mem_cons.1 ((h z).2 (List.mem_cons_of_mem _ hz)) with e | e
      · subst e; exact absurd (List.rel_of_pairwise_cons hm hz) (ltE_irrefl _)
      · exact e
/-- The edges that graph.Normal makes. -/
def setE (l : List Ed) : List Ed := compactE (isortE (normsE l))
theorem setE_strict (l : List Ed) : (setE l).Pairwise ltE := compactE_strict _ (isortE_sorted _)
theorem setE_mem (l : List Ed) (x : Ed) : x ∈ setE l ↔ x ∈ normsE l := by
  unfold setE
  rw [compactE_mem, (isortE_perm _).mem_iff]
theorem normsE_mem (l : List Ed) (x : Ed) : x ∈ normsE l ↔ ∃ y ∈ l, y.1 ≠ y.2 ∧ x = (min y.1 y.2, max y.1 y.2) := by
  simp only [normsE, List.mem_map, List.mem_filter, decide_eq_true_eq]
  constructor
  · rintro ⟨y, ⟨h1, h2⟩, rfl⟩; exact ⟨y, h1, h2, rfl⟩
  · rintro ⟨y, h1, h2, rfl⟩; exact ⟨y, ⟨h1, h2⟩, rfl⟩
theorem normalE_ok {n : Int} {l : List Ed} (h0 : 0 ≤ n) (h1 : n ≤ 1000) (h : l.all (okEnds n) = true) (hl : (setE l).length ≤ 4000) : normalE n l = (n, setE l, 0) := by
  unfold normalE
  rw [if_neg (by omega), if_neg (by omega), if_pos h, if_neg (by unfold setE at hl; omega)]
  rfl
end Go.Ai.G
namespace Go.Ai.G
open Go.Ai
set_option maxRecDepth 100000
set_option linter.unusedSimpArgs false
set_option linter.unusedVariables false
variable {A : AProg} {φ : Nat → Nat}
attribute [local simp ↓] getD_z getD_s hid_k hid_o hid_q hid_v PO_nil PO_none PO_grd PD_nil PD_none PD_grd PDO_N PDO_X PDO_call PDO_calli PDO_callv PStep_N PStep_X PStep_call PStep_calli PC_skip PC_lab
  PC_ret PC_exit PC_reg PC_draw PC_seq PC_block PC_loop PC_scope PC_cond thenC_norm thenC_ret thenC_exit blockC_norm blockC_ret blockC_exit loopC_norm loopC_ret loopC_exit endR_ret
  endR_norm
attribute [local simp] gz PDX_free PDX_eq PStep_callv resK_none resK_t resK_tt KNO_val KNO_new KNO_ite KNO_map KXO_some KXO_ite KVA_t KVA_f KG_skip KG_tt KG_ff KG_tf KG_ft KB_true KB_false KNOD_val
  KNOD_new KNOD_ite n_mv n_pick n_bin n_eqB n_eqN n_eqS n_un n_conv n_fadd n_faddV n_fld1 n_fldN n_idx n_idxA n_idxV n_idxAV n_ext n_lenS n_lenS0 n_lenV n_lenT n_lenA n_min n_max
  n_build n_mkfn n_slc n_slc0 n_slcV n_slcA n_load1 n_loadN n_load1V n_loadNV n_alloc n_box n_bsl n_mksl n_nilcP n_nilcV n_nilcI n_nilcF x_store x_clear0 x_clear b_add b_sub b_mul
  b_eql b_neq b_lss b_leq b_gtr b_geq b_and16 unV ntouch gather hide unhide evalOpd applyOuts int_bne int_beq ite_bool ite_int one_bool cells_bool one_int cells_int one_str cells_str
  one_nilp cells_nilp one_ptr cells_ptr one_nils cells_nils one_sl cells_sl one_nilf cells_nilf one_fn cells_fn one_nili cells_nili one_mp cells_mp one_nilm cells_nilm one_iface
  cells_iface one_vs cells_vs one_vp cells_vp cells_agg Nat.testBit setAt_1 setAt_2 closeds_nil closeds_cons closed_bool closed_int closed_str closed_nilp closed_nils closed_nilm
  closed_nilf closed_nili closed_agg closed_tup closed_vs closed_vp closed_iface closed_fn closeds_cI closeds_cE viewA_closed viewR_closed AV.scal AV.scal0 fillA repA part_bool
  part_int part_str part_nilp part_ptr part_nils part_sl part_nilm part_mp part_nilf part_fn part_nili part_iface part_agg part_vs part_vp viewA_sl1 vaSl_cells wrap_0 wrap_1 wrap_2
  wrap_m1 set_last get_last
end Go.Ai.G
namespace Go.Ai.G
open Go.Ai
set_option maxRecDepth 100000
set_option linter.unusedSimpArgs false
set_option linter.unusedVariables false
variable {A : AProg} {φ : Nat → Nat}
/-! ### Rows of numbers, each one's own -/
structure OwnRs (P : Nat) (H : Heap) (us : List AV) (rs : List (List Int)) : Prop where
  len : us.length = rs.length
  own : ∀ (i : Nat) u r, us[i]? = some u → rs[i]? = some r → OwnI true P H u r
  sep : ∀ (i j : Nat) u u' b, i ≠ j → us[i]? = some u → us[j]? = some u' → blkOf u = some b → blkOf u' ≠ some b
theorem OwnRs.keep {P : Nat} {H H' : Heap} {us : List AV} {rs : List (List Int)} (h : OwnRs P H us rs) (hk : ∀ b, b < H.length → P ≤ b → H'[b]? = H[b]?) : OwnRs P H' us rs :=
  ⟨h.len, fun i u r hu hr => Own.keep (h.own i u r hu hr) fun b hb hub => hk b hb (Own.blk (h.own i u r hu hr) hub).1, h.sep⟩
/-- A row grows. -/
theorem OwnRs.grow {P : Nat} {H H' : Heap} {us : List AV} {rs : List (List Int)} {i : Nat} {u u' : AV} {r r' : List Int} (h : OwnRs P H us rs) (hu : us[i]? = some u) (hr : rs[i]? = some r) (hown : OwnI true P H' u' r')
    (hk : ∀ b, b < H.length → blkOf u ≠ some b → H'[b]? = H[b]?) (hb : ∀ b, blkOf u' = some b → blkOf u = some b ∨ H.length < b) : OwnRs P H' (us.set i u') (rs.set i r') := by
  refine ⟨by simp [h.len], fun j w s hw hs => ?_, fun j k w w' b hjk hw hw' hwb hwb' => ?_⟩
  · rw [List.getElem?_set] at hw hs
    by_cases e : i = j
    · subst e
      rw [if_pos rfl] at hw hs
      rw [if_pos (List.getElem?_eq_some_iff.1 hu).1] at hw
      rw [if_pos (List.getElem?_eq_some_iff.1 hr).1] at hs
      cases hw; cases hs; exact hown
    · rw [if_neg e] at hw hs
      exact Own.keep (h.own j w s hw hs) fun b hbl hwb => hk b hbl fun hub => h.sep i j u w b e hu hw hub hwb
  · have key : ∀ (j k : Nat) (w w' : AV), j = i → k ≠ i → w = u' → us[k]? = some w' → blkOf w = some b → blkOf w' = some b → False := by
      intro j k z z' e1 e2 e3 hz' h1 h2
      rw [e3] at h1
      rcases hb b h1 with h3 | h3
      · exact h.sep i k u z' b (fun e => e2 e.symm) hu hz' h3 h2
      · obtain ⟨s, hs⟩ : ∃ s, rs[k]? = some s := ⟨rs[k]'(by rw [← h.len]; exact (List.getElem?_eq_some_iff.1 hz').1), List.getElem?_eq_getElem _⟩
        have := (Own.blk (h.own k z' s hz' hs) h2).2
        omega
    rw [List.getElem?_set] at hw hw'
    by_cases e : i = j
    · subst e
      have e2 : ¬ i = k := hjk
      rw [if_pos rfl, if_pos (List.getElem?_eq_some_iff.1 hu).1] at hw
      rw [if_neg e2] at hw'
      cases hw
      exact key i k _ w' rfl (fun e => e2 e.symm) rfl hw' hwb hwb'
    · rw [if_neg e] at hw
      by_cases e3 : i = k
      · subst e3
        rw [if_pos rfl, if_pos (List.getElem?_eq_some_iff.1 hu).1] at hw'
        cases hw'
        exact key i j _ w rfl (fun e' => e e'.symm) rfl hw hwb' hwb
      · rw [if_neg e3] at hw'
        exact h.sep j k w w' b hjk hw hw' hwb hwb'
theorem repA_repl (x : AV) : ∀ n, repA [x] n = List.replicate n x
  | 0 => rfl
  | n + 1 => by simp [repA, repA_repl x n, List.replicate_succ]
/-! ### The rows of neighbours that the document's answer makes -/
end Go.Ai.G
namespace Go.Ai.G
open Go.Ai
set_option maxRecDepth 100000
set_option linter.unusedSimpArgs false
set_option linter.unusedVariables false
variable {A : AProg} {φ : Nat → Nat}
attribute [local simp ↓] getD_z getD_s hid_k hid_o hid_q hid_v PO_nil PO_none PO_grd PD_nil PD_none PD_grd PDO_N PDO_X PDO_call PDO_calli PDO_callv PStep_N PStep_X PStep_call PStep_calli PC_skip PC_lab
  PC_ret PC_exit PC_reg PC_draw PC_seq PC_block PC_loop PC_scope PC_cond thenC_norm thenC_ret thenC_exit blockC_norm blockC_ret blockC_exit loopC_norm loopC_ret loopC_exit endR_ret
  endR_norm
attribute [local simp] gz PDX_free PDX_eq PStep_callv resK_none resK_t resK_tt KNO_val KNO_new KNO_ite KNO_map KXO_some KXO_ite KVA_t KVA_f KG_skip KG_tt KG_ff KG_tf KG_ft KB_true KB_false KNOD_val
  KNOD_new KNOD_ite n_mv n_pick n_bin n_eqB n_eqN n_eqS n_un n_conv n_fadd n_faddV n_fld1 n_fldN n_idx n_idxA n_idxV n_idxAV n_ext n_lenS n_lenS0 n_lenV n_lenT n_lenA n_min n_max
  n_build n_mkfn n_slc n_slc0 n_slcV n_slcA n_load1 n_loadN n_load1V n_loadNV n_alloc n_box n_bsl n_mksl n_nilcP n_nilcV n_nilcI n_nilcF x_store x_clear0 x_clear b_add b_sub b_mul
  b_eql b_neq b_lss b_leq b_gtr b_geq b_and16 unV ntouch gather hide unhide evalOpd applyOuts int_bne int_beq ite_bool ite_int one_bool cells_bool one_int cells_int one_str cells_str
  one_nilp cells_nilp one_ptr cells_ptr one_nils cells_nils one_sl cells_sl one_nilf cells_nilf one_fn cells_fn one_nili cells_nili one_mp cells_mp one_nilm cells_nilm one_iface
  cells_iface one_vs cells_vs one_vp cells_vp cells_agg Nat.testBit setAt_1 setAt_2 closeds_nil closeds_cons closed_bool closed_int closed_str closed_nilp closed_nils closed_nilm
  closed_nilf closed_nili closed_agg closed_tup closed_vs closed_vp closed_iface closed_fn closeds_cI closeds_cE viewA_closed viewR_closed AV.scal AV.scal0 fillA repA part_bool
  part_int part_str part_nilp part_ptr part_nils part_sl part_nilm part_mp part_nilf part_fn part_nili part_iface part_agg part_vs part_vp viewA_sl1 vaSl_cells wrap_0 wrap_1 wrap_2
  wrap_m1 set_last get_last
end Go.Ai.G
namespace Go.Ai.G
open Go.Ai
set_option maxRecDepth 100000
set_option linter.unusedSimpArgs false
set_option linter.unusedVariables false
variable {A : AProg} {φ : Nat → Nat}
attribute [local simp ↓] getD_z getD_s hid_k hid_o hid_q hid_v PO_nil PO_none PO_grd PD_nil PD_none PD_grd PDO_N PDO_X PDO_call PDO_calli PDO_callv PStep_N PStep_X PStep_call PStep_calli PC_skip PC_lab
  PC_ret PC_exit PC_reg PC_draw PC_seq PC_block PC_loop PC_scope PC_cond thenC_norm thenC_ret thenC_exit blockC_norm blockC_ret blockC_exit loopC_norm loopC_ret loopC_exit endR_ret
  endR_norm
attribute [local simp] gz PDX_free PDX_eq PStep_callv resK_none resK_t resK_tt KNO_val KNO_new KNO_ite KNO_map KXO_some KXO_ite KVA_t KVA_f KG_skip KG_tt KG_ff KG_tf KG_ft KB_true KB_false KNOD_val
  KNOD_new KNOD_ite n_mv n_pick n_bin n_eqB n_eqN n_eqS n_un n_conv n_fadd n_faddV n_fld1 n_fldN n_idx n_idxA n_idxV n_idxAV n_ext n_lenS n_lenS0 n_lenV n_lenT n_lenA n_min n_max
  n_build n_mkfn n_slc n_slc0 n_slcV n_slcA n_load1 n_loadN n_load1V n_loadNV n_alloc n_box n_bsl n_mksl n_nilcP n_nilcV n_nilcI n_nilcF x_store x_clear0 x_clear b_add b_sub b_mul
  b_eql b_neq b_lss b_leq b_gtr b_geq b_and16 unV ntouch gather hide unhide evalOpd applyOuts int_bne int_beq ite_bool ite_int one_bool cells_bool one_int cells_int one_str cells_str
  one_nilp cells_nilp one_ptr cells_ptr one_nils cells_nils one_sl cells_sl one_nilf cells_nilf one_fn cells_fn one_nili cells_nili one_mp cells_mp one_nilm cells_nilm one_iface
  cells_iface one_vs cells_vs one_vp cells_vp cells_agg Nat.testBit setAt_1 setAt_2 closeds_nil closeds_cons closed_bool closed_int closed_str closed_nilp closed_nils closed_nilm
  closed_nilf closed_nili closed_agg closed_tup closed_vs closed_vp closed_iface closed_fn closeds_cI closeds_cE viewA_closed viewR_closed AV.scal AV.scal0 fillA repA part_bool
  part_int part_str part_nilp part_ptr part_nils part_sl part_nilm part_mp part_nilf part_fn part_nili part_iface part_agg part_vs part_vp viewA_sl1 vaSl_cells wrap_0 wrap_1 wrap_2
  wrap_m1 set_last get_last
theorem cmpE_neg (x y : Ed) : cmpE x y < 0 ↔ ltE x y := by
  unfold cmpE cmpI ltE
  split <;> (repeat' split) <;> omega
theorem right_len {n : Int} {es : List Ed} (h : rightE n es = true) : 0 ≤ n ∧ n ≤ 1000 ∧ es.length ≤ 4000 := by
  unfold rightE at h
  simp only [Bool.and_eq_true, decide_eq_true_eq] at h
  exact h.1
end Go.Ai.G
namespace Go.Ai.G
open Go.Ai
set_option maxRecDepth 100000
set_option linter.unusedSimpArgs false
set_option linter.unusedVariables false
variable {A : AProg} {φ : Nat → Nat}
attribute [local simp ↓] getD_z getD_s hid_k hid_o hid_q hid_v PO_nil PO_none PO_grd PD_nil PD_none PD_grd PDO_N PDO_X PDO_call PDO_calli PDO_callv PStep_N PStep_X PStep_call PStep_calli PC_skip PC_lab
  PC_ret PC_exit PC_reg PC_draw PC_seq PC_block PC_loop PC_scope PC_cond thenC_norm thenC_ret thenC_exit blockC_norm blockC_ret blockC_exit loopC_norm loopC_ret loopC_exit endR_ret
  endR_norm
attribute [local simp] gz PDX_free PDX_eq PStep_callv resK_none resK_t resK_tt KNO_val KNO_new KNO_ite KNO_map KXO_some KXO_ite KVA_t KVA_f KG_skip KG_tt KG_ff KG_tf KG_ft KB_true KB_false KNOD_val
  KNOD_new KNOD_ite n_mv n_pick n_bin n_eqB n_eqN n_eqS n_un n_conv n_fadd n_faddV n_fld1 n_fldN n_idx n_idxA n_idxV n_idxAV n_ext n_lenS n_lenS0 n_lenV n_lenT n_lenA n_min n_max
  n_build n_mkfn n_slc n_slc0 n_slcV n_slcA n_load1 n_loadN n_load1V n_loadNV n_alloc n_box n_bsl n_mksl n_nilcP n_nilcV n_nilcI n_nilcF x_store x_clear0 x_clear b_add b_sub b_mul
  b_eql b_neq b_lss b_leq b_gtr b_geq b_and16 unV ntouch gather hide unhide evalOpd applyOuts int_bne int_beq ite_bool ite_int one_bool cells_bool one_int cells_int one_str cells_str
  one_nilp cells_nilp one_ptr cells_ptr one_nils cells_nils one_sl cells_sl one_nilf cells_nilf one_fn cells_fn one_nili cells_nili one_mp cells_mp one_nilm cells_nilm one_iface
  cells_iface one_vs cells_vs one_vp cells_vp cells_agg Nat.testBit setAt_1 setAt_2 closeds_nil closeds_cons closed_bool closed_int closed_str closed_nilp closed_nils closed_nilm
  closed_nilf closed_nili closed_agg closed_tup closed_vs closed_vp closed_iface closed_fn closeds_cI closeds_cE viewA_closed viewR_closed AV.scal AV.scal0 fillA repA part_bool
  part_int part_str part_nilp part_ptr part_nils part_sl part_nilm part_mp part_nilf part_fn part_nili part_iface part_agg part_vs part_vp viewA_sl1 vaSl_cells wrap_0 wrap_1 wrap_2
  wrap_m1 set_last get_last
/-- How often a vertex stands at an end. -/
def cnt (v : Int) (es : List Ed) : Nat := es.countP (fun x => decide (x.1 = v)) + es.countP (fun x => decide (x.2 = v))
theorem right_step {n : Int} {es : List Ed} (h : rightE n es = true) {i : Nat} (hi : i < es.length) : 0 ≤ es[i].1 ∧ es[i].1 < es[i].2 ∧ es[i].2 < n := by
  unfold rightE at h
  simp only [Bool.and_eq_true] at h
  have := List.all_eq_true.1 h.2 i (List.mem_range.2 hi)
  simp only [stepE, List.getD_eq_getElem?_getD, List.getElem?_eq_getElem hi, Option.getD_some, Bool.and_eq_true, decide_eq_true_eq] at this
  exact ⟨this.1.1.1, this.1.1.2, this.1.2⟩
end Go.Ai.G
namespace Go.Ai.G
open Go.Ai
set_option maxRecDepth 100000
set_option linter.unusedSimpArgs false
set_option linter.unusedVariables false
variable {A : AProg} {φ : Nat → Nat}
attribute [local simp ↓] getD_z getD_s hid_k hid_o hid_q hid_v PO_nil PO_none PO_grd PD_nil PD_none PD_grd PDO_N PDO_X PDO_call PDO_calli PDO_callv PStep_N PStep_X PStep_call PStep_calli PC_skip PC_lab
  PC_ret PC_exit PC_reg PC_draw PC_seq PC_block PC_loop PC_scope PC_cond thenC_norm thenC_ret thenC_exit blockC_norm blockC_ret blockC_exit loopC_norm loopC_ret loopC_exit endR_ret
  endR_norm
attribute [local simp] gz PDX_free PDX_eq PStep_callv resK_none resK_t resK_tt KNO_val KNO_new KNO_ite KNO_map KXO_some KXO_ite KVA_t KVA_f KG_skip KG_tt KG_ff KG_tf KG_ft KB_true KB_false KNOD_val
  KNOD_new KNOD_ite n_mv n_pick n_bin n_eqB n_eqN n_eqS n_un n_conv n_fadd n_faddV n_fld1 n_fldN n_idx n_idxA n_idxV n_idxAV n_ext n_lenS n_lenS0 n_lenV n_lenT n_lenA n_min n_max
  n_build n_mkfn n_slc n_slc0 n_slcV n_slcA n_load1 n_loadN n_load1V n_loadNV n_alloc n_box n_bsl n_mksl n_nilcP n_nilcV n_nilcI n_nilcF x_store x_clear0 x_clear b_add b_sub b_mul
  b_eql b_neq b_lss b_leq b_gtr b_geq b_and16 unV ntouch gather hide unhide evalOpd applyOuts int_bne int_beq ite_bool ite_int one_bool cells_bool one_int cells_int one_str cells_str
  one_nilp cells_nilp one_ptr cells_ptr one_nils cells_nils one_sl cells_sl one_nilf cells_nilf one_fn cells_fn one_nili cells_nili one_mp cells_mp one_nilm cells_nilm one_iface
  cells_iface one_vs cells_vs one_vp cells_vp cells_agg Nat.testBit setAt_1 setAt_2 closeds_nil closeds_cons closed_bool closed_int closed_str closed_nilp closed_nils closed_nilm
  closed_nilf closed_nili closed_agg closed_tup closed_vs closed_vp closed_iface closed_fn closeds_cI closeds_cE viewA_closed viewR_closed AV.scal AV.scal0 fillA repA part_bool
  part_int part_str part_nilp part_ptr part_nils part_sl part_nilm part_mp part_nilf part_fn part_nili part_iface part_agg part_vs part_vp viewA_sl1 vaSl_cells wrap_0 wrap_1 wrap_2
  wrap_m1 set_last get_last
/-! ### Any graph -/
end Go.Ai.G
namespace Go.Ai.G
open Go.Ai
set_option maxRecDepth 100000
set_option linter.unusedSimpArgs false
set_option linter.unusedVariables false
variable {A : AProg} {φ : Nat → Nat}
attribute [local simp ↓] getD_z getD_s hid_k hid_o hid_q hid_v PO_nil PO_none PO_grd PD_nil PD_none PD_grd PDO_N PDO_X PDO_call PDO_calli PDO_callv PStep_N PStep_X PStep_call PStep_calli PC_skip PC_lab
  PC_ret PC_exit PC_reg PC_draw PC_seq PC_block PC_loop PC_scope PC_cond thenC_norm thenC_ret thenC_exit blockC_norm blockC_ret blockC_exit loopC_norm loopC_ret loopC_exit endR_ret
  endR_norm
attribute [local simp] gz PDX_free PDX_eq PStep_callv resK_none resK_t resK_tt KNO_val KNO_new KNO_ite KNO_map KXO_some KXO_ite KVA_t KVA_f KG_skip KG_tt KG_ff KG_tf KG_ft KB_true KB_false KNOD_val
  KNOD_new KNOD_ite n_mv n_pick n_bin n_eqB n_eqN n_eqS n_un n_conv n_fadd n_faddV n_fld1 n_fldN n_idx n_idxA n_idxV n_idxAV n_ext n_lenS n_lenS0 n_lenV n_lenT n_lenA n_min n_max
  n_build n_mkfn n_slc n_slc0 n_slcV n_slcA n_load1 n_loadN n_load1V n_loadNV n_alloc n_box n_bsl n_mksl n_nilcP n_nilcV n_nilcI n_nilcF x_store x_clear0 x_clear b_add b_sub b_mul
  b_eql b_neq b_lss b_leq b_gtr b_geq b_and16 unV ntouch gather hide unhide evalOpd applyOuts int_bne int_beq ite_bool ite_int one_bool cells_bool one_int cells_int one_str cells_str
  one_nilp cells_nilp one_ptr cells_ptr one_nils cells_nils one_sl cells_sl one_nilf cells_nilf one_fn cells_fn one_nili cells_nili one_mp cells_mp one_nilm cells_nilm one_iface
  cells_iface one_vs cells_vs one_vp cells_vp cells_agg Nat.testBit setAt_1 setAt_2 closeds_nil closeds_cons closed_bool closed_int closed_str closed_nilp closed_nils closed_nilm
  closed_nilf closed_nili closed_agg closed_tup closed_vs closed_vp closed_iface closed_fn closeds_cI closeds_cE viewA_closed viewR_closed AV.scal AV.scal0 fillA repA part_bool
  part_int part_str part_nilp part_ptr part_nils part_sl part_nilm part_mp part_nilf part_fn part_nili part_iface part_agg part_vs part_vp viewA_sl1 vaSl_cells wrap_0 wrap_1 wrap_2
  wrap_m1 set_last get_last
theorem right_strict {n : Int} {es : List Ed} (h : rightE n es = true) : es.Pairwise ltE := by
  unfold rightE at h
  simp only [Bool.and_eq_true] at h
  have hs := List.all_eq_true.1 h.2
  have hadj : ∀ i (hi : i + 1 < es.length), ltE es[i] es[i + 1] := by
    intro i hi
    have := hs (i + 1) (List.mem_range.2 hi)
    simp only [stepE, List.getD_eq_getElem?_getD, List.getElem?_eq_getElem hi, List.getElem?_eq_getElem (show i < es.length by omega), Option.getD_some, Bool.and_eq_true, Bool.or_eq_true, beq_iff_eq, decide_eq_true_eq, Nat.add_sub_cancel] at this
    rcases this.2 with h | h
    · omega
    · exact (cmpE_neg _ _).1 h
  rw [List.pairwise_iff_getElem]
  intro i j hi hj hij
  obtain ⟨d, rfl⟩ : ∃ d, j = i + 1 + d := ⟨j - i - 1, by omega⟩
  clear hij
  induction d with
  | zero => exact hadj i hj
  | succ d ih => exact ltE_trans (ih (by omega)) (hadj (i + 1 + d) hj)
end Go.Ai.G
