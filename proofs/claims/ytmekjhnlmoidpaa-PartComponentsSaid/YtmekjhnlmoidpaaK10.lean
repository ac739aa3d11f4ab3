/- A part of what the law leans on: the abstract machine, the contracts, the rows. -/
import Derived.Maps.OwnRows
import Derived.Maps.RangeWalk
import Derived.Test.YtmekjhnlmoidpaaK9
import Derived.Test.YtmekjhnlmoidpaaK7
import Derived.Test.YtmekjhnlmoidpaaK5
import Derived.Test.YtmekjhnlmoidpaaK6
/- Maps of rows that a call makes, beside memory that other calls write: what stays. -/
namespace Go.Ai
open Go.Maps Go.RowKit Go.ChangeShapes Go.ChangeMaps Go.MapKept
open Go.WideElems (Fit rd rg pl rd_val elemAt)
set_option linter.unusedVariables false
set_option linter.unusedSimpArgs false
/-- From block n1 on all lies as it lay. -/
structure KeptUp (n1 : Nat) (w w' : World) : Prop where
  os : w'.os = w.os
  tape : w'.tape = w.tape
  output : w'.output = w.output
  size : w.heap.size ≤ w'.heap.size
  up : ∀ k, n1 ≤ k → k < w.heap.size → w'.heap[k]? = w.heap[k]?
theorem KeptUp.refl (n1 : Nat) (w : World) : KeptUp n1 w w := ⟨rfl, rfl, rfl, Nat.le_refl _, fun _ _ _ => rfl⟩
theorem KeptUp.mono {n1 n2 : Nat} {w w' : World} (h : KeptUp n1 w w') (hn : n1 ≤ n2) : KeptUp n2 w w' := ⟨h.os, h.tape, h.output, h.size, fun k hk => h.up k (Nat.le_trans hn hk)⟩
section
variable {H : Type} {P : Program} {w w' : World} {base : Nat} {e : TypeId} {q : IntKind} {v : Value} {zs : List Int} {k : TypeId} {b n n1 : Nat} {D : DataW H}
theorem ownsRow_up {sz m : Nat} {xs : List Value} (h : w.ownsRow base e sz v m xs) (hk : KeptUp n1 w w') (hb : n1 ≤ base) : w'.ownsRow base e sz v m xs := by
  obtain ⟨h1, h2⟩ := h
  refine ⟨h1, ?_⟩
  rcases h2 with h2 | ⟨g, cap, cur, rfl, hg, hh, h3⟩
  · exact .inl h2
  · exact .inr ⟨g, cap, cur, rfl, hg, by rw [hk.up g (by omega) (Array.getElem?_eq_some_iff.1 hh).1]; exact hh, h3⟩
theorem ownsInts_up (h : w.ownsInts base e q v zs) (hk : KeptUp n1 w w') (hb : n1 ≤ base) : w'.ownsInts base e q v zs := ⟨ownsRow_up h.1 hk hb, h.2⟩
theorem ownsGroups_up (h : w.ownsGroups P k base e q b n D) (hk : KeptUp n1 w w') (hb : n1 ≤ b) : w'.ownsGroups P k base e q b n D := by
  obtain ⟨es, clock, hh, F, hs, rfl, hbb, hlen, hap⟩ := h
  have hs1 : ∀ x ∈ es.toList, ∀ z, rowElem (H := H) w base e q x.val = some z → rowElem w' base e q x.val = some z := by
    intro x _ z hz
    obtain ⟨ys, ho, rfl⟩ := rowElem_inv hz
    exact rowElem_mk (ownsInts_up ho hk (by omega))
  obtain ⟨F2, hmap2, _⟩ := F.stay hs1
  refine ⟨es, clock, by rw [hk.up b hb (Array.getElem?_eq_some_iff.1 hh).1]; exact hh, F2, hs, by rw [hmap2], hbb, ?_, hap⟩
  intro x hx ys ho
  obtain ⟨y, hy⟩ := F.reads x hx
  obtain ⟨z, hz, _⟩ := rd_val hy
  obtain ⟨ys', ho', _⟩ := rowElem_inv hz
  rw [ho.unique (ownsInts_up ho' hk (by omega))]
  exact hlen x hx ys' ho'
/-- The look-up; and the way back out of any later world in which map and rows lie as they lay. -/
theorem groups_at2 {t E : TypeId} {key : Value} {kl : Lit} (h : w.ownsGroups P k base e q b n D) (K : Keyed P k) (ht : P.underlying t = some (.map k E)) (hz : (zeroValue E).run P w = .ok (.slice none 0 0) w) (hn : n < maxLen) (hkey : keyOf P k key = some kl) :
    ∃ v zs, (Instr.lookup t (.map (some b)) key false).run P w = .ok v w ∧ D.atKey kl .nil = rowDatum q v zs ∧ w.ownsInts base e q v zs ∧ zs.length ≤ n ∧
      ∀ w', KeptUp b w w' → w'.ownsInts base e q v zs ∧ w'.groupBack P t k base e q b n D key kl v := by
  have hall := h
  obtain ⟨es, clock, hb, F, hs, rfl, hbb, hlen, hap⟩ := h
  have main : ∀ v : Value, (∀ x ∈ es.toList, x.key ≠ key → x.val.ownBlock = none ∨ x.val.ownBlock ≠ v.ownBlock) → v.ownBlock ≠ some b → ∀ w', KeptUp b w w' → w'.groupBack P t k base e q b n (.map ((es.toList.map (rg P k (rowElem (H := H) w base e q))).foldr DataW.insert [])) key kl v := by
    intro v h1 h2 w' hk
    have h' := ownsGroups_up hall hk (Nat.le_refl _)
    obtain ⟨es', clock', hb', F', hs', hD', hbb', hlen', hap'⟩ := h'
    have e1 : es' = es ∧ clock' = clock := by
      rw [hk.up b (Nat.le_refl _) (Array.getElem?_eq_some_iff.1 hb).1, hb] at hb'
      cases hb'; exact ⟨rfl, rfl⟩
    obtain ⟨rfl, rfl⟩ := e1
    rw [hD']
    exact groups_back K ht hb' F' hs' hn hbb' hlen' hap' hkey h1 h2
  rcases Maps.fit_look false K ht hz hb F hkey with ⟨hrun, _, hat⟩ | ⟨e0, y, hm0, h3, hrun, hR, hat, _⟩
  · refine ⟨.slice none 0 0, [], hrun, hat _, World.ownsInts_nil _ _ _ _, Nat.zero_le _, fun w' hk => ⟨World.ownsInts_nil _ _ _ _, main _ (fun x _ _ => ?_) (by simp [Value.ownBlock]) w' hk⟩⟩
    cases x.val.ownBlock <;> simp [Value.ownBlock]
  · obtain ⟨zs, ho, rfl⟩ := rowElem_inv hR
    refine ⟨e0.val, zs, hrun, hat _, ho, hlen e0 hm0 zs ho, fun w' hk => ⟨ownsInts_up ho hk (by omega), main _ (fun x hx hne => hap x hx e0 hm0 (by rw [h3]; exact hne)) (fun e1 => ?_) w' hk⟩⟩
    have := (ho.1.lt b e1).1
    omega
end
theorem wpList_lookup_groups2 {H : Type} {P : Program} (w : World) {ops : Array Oper} {rest : List Oper} {o : Oper} {a : Act} {Q : Exit → Act → World → Prop}
    (hg : o.guard = none) (m x : Operand) (t : TypeId) (hop : o.op = Op.lookup t m x false)
    (k E e : TypeId) (q : IntKind) (K : Keyed P k) (ht : P.underlying t = some (.map k E)) (hz : (zeroValue E).run P w = .ok (.slice none 0 0) w) (base b n : Nat) (D : DataW H)
    (hm : a.eval m = .map (some b)) (hown : w.ownsGroups P k base e q b n D) (hn : n < maxLen) (key : Value) (kl : Lit) (hx : a.eval x = key) (hkey : keyOf P k key = some kl)
    (hK : ∀ v zs, D.atKey kl .nil = rowDatum q v zs → w.ownsInts base e q v zs → zs.length ≤ n → (∀ w', KeptUp b w w' → w'.ownsInts base e q v zs ∧ w'.groupBack P t k base e q b n D key kl v) → wpList P ops Q rest (a.put o.dst v) w) :
    wpList P ops Q (o :: rest) a w := by
  refine wpList_plain hg fun K' hK' => ?_
  obtain ⟨v, zs, hrun, hat, hoi, hzl, hback⟩ := groups_at2 hown K ht hz hn hkey
  unfold Oper.wp
  simp [execOp, hop, hm, hx, hrun, Result.andThen]
  exact hK' _ _ (hK v zs hat hoi hzl hback)
theorem ownsInts_shape {w : World} {base : Nat} {e : TypeId} {v : Value} {zs : List Int} (h : w.ownsInts base e .i64 v zs) (hz : zs ≠ []) :
    ∃ g cap, v = .slice (some ⟨g, 0, none⟩) zs.length cap ∧ base ≤ g ∧ g < w.heap.size ∧ zs.length ≤ cap ∧ ∀ (i : Nat) z, zs[i]? = some z → w.cell? ⟨g, i, none⟩ = some (.int .i64 z) := by
  obtain ⟨⟨h1, h2⟩, _⟩ := h
  rcases h2 with ⟨rfl, h0⟩ | ⟨g, cap, cur, rfl, hg, hh, hn, hcap, hcs, htk⟩
  · exact absurd (List.length_eq_zero_iff.1 h0) hz
  · refine ⟨g, cap, rfl, hg, (Array.getElem?_eq_some_iff.1 hh).1, hn, fun i z hi => ?_⟩
    have hil := (List.getElem?_eq_some_iff.1 hi).1
    have e1 : (cur.toList.take (zs.length * 1))[i]? = some (.int .i64 z) := by rw [htk, List.getElem?_map, hi]; rfl
    rw [List.getElem?_take, if_pos (by omega), Array.getElem?_toList] at e1
    simp [World.cell?, hh, e1]
/-- What Classes leaves: rows of rows, in new blocks. -/
def ClsPost (n1 : Nat) (rows : List (List Int)) (ov : Value) (W : World) : Prop :=
  (rows = [] ∧ ov = .slice none 0 0) ∨ ∃ g cap, ∃ vs : List Value, rows ≠ [] ∧ ov = .slice (some ⟨g, 0, none⟩) rows.length cap ∧ rows.length ≤ cap ∧ n1 ≤ g ∧ g < W.heap.size ∧ vs.length = rows.length ∧
    (∀ (j : Nat) v, vs[j]? = some v → W.cell? ⟨g, j, none⟩ = some v) ∧ ∀ (j : Nat) v zs, vs[j]? = some v → rows[j]? = some zs → ∃ rb rc, v = .slice (some ⟨rb, 0, none⟩) zs.length rc ∧ zs.length ≤ rc ∧ n1 ≤ rb ∧ rb < W.heap.size ∧
      ∀ (i : Nat) z, zs[i]? = some z → W.cell? ⟨rb, i, none⟩ = some (.int .i64 z)
end Go.Ai
/- Classes as a function that is given from outside. -/
namespace Go.Ai
set_option linter.unusedVariables false
set_option linter.unusedSimpArgs false
def iterU (up : List Int) : Nat → Nat → Nat
  | 0, i => i
  | f + 1, i => iterU up f (upn up i)
def depU (up : List Int) : Nat → Nat → Nat
  | 0, _ => 0
  | f + 1, i => if upn up i = i then 0 else depU up f (upn up i) + 1
/-- What is left behind so many calls of top, two for each number. -/
def allTop (n : Nat) (up : List Int) : Nat → List Int
  | 0 => up
  | t + 1 => (topF n (allTop n up t) (t / 2)).2
def okAt (n : Nat) (up : List Int) (i : Nat) : Bool :=
  decide (up[i]? = some ((upn up i : Nat) : Int)) && decide (upn up i < n) && decide (iterU up n (upn up i) = iterU up n i) && (decide (upn up i = i) == decide (iterU up n i = i)) && decide (iterU up n i < n) &&
    decide (iterU up n (iterU up n i) = iterU up n i) && (decide (upn up i = i) || decide (depU up n (upn up i) < depU up n i))
def okUp (n : Nat) (up : List Int) : Bool := decide (up.length = n) && (List.range n).all (okAt n up)
theorem depU_le (up : List Int) : ∀ f i, depU up f i ≤ f
  | 0, _ => Nat.le_refl _
  | f + 1, i => by
    rw [depU]
    split
    · omega
    · have := depU_le up f (upn up i); omega
theorem okUp_dec {n : Nat} {up : List Int} (h : okUp n up = true) : Dec n (iterU up n) up (depU up n) := by
  unfold okUp at h
  simp only [Bool.and_eq_true, decide_eq_true_eq, List.all_eq_true, List.mem_range] at h
  obtain ⟨h1, h2⟩ := h
  have k := fun i hi => by
    have := h2 i hi
    simp only [okAt, Bool.and_eq_true, decide_eq_true_eq, Bool.or_eq_true, beq_iff_eq, decide_eq_decide] at this
    exact this
  exact ⟨h1, fun i hi => (k i hi).1.1.1.1.1.1, fun i hi => (k i hi).1.1.1.1.1.2, fun i hi => (k i hi).1.1.1.1.2, fun i hi => (k i hi).1.1.1.2, fun i hi => (k i hi).1.1.2, fun i hi => (k i hi).1.2, fun i hi hn => by
    rcases (k i hi).2 with h | h
    · exact absurd h hn
    · exact h⟩
theorem iterU_fix {up : List Int} {i : Nat} (h : upn up i = i) : ∀ f, iterU up f i = i
  | 0 => rfl
  | f + 1 => by rw [iterU, h]; exact iterU_fix h f
theorem iterU_dec {N : Nat} {r : Nat → Nat} {up : List Int} {d : Nat → Nat} (h : Dec N r up d) : ∀ (f i : Nat), i < N → d i ≤ f → iterU up f i = r i
  | 0, i, hi, hd => by
    refine ((h.fix i hi).1 (Decidable.byContradiction fun e => ?_)).symm
    have := h.dec i hi e; omega
  | f + 1, i, hi, hd => by
    by_cases e : upn up i = i
    · rw [iterU_fix e]; exact ((h.fix i hi).1 e).symm
    · rw [iterU, iterU_dec h f _ (h.lt i hi) (by have := h.dec i hi e; omega)]; exact h.cls i hi
theorem depU_more {N : Nat} {r : Nat → Nat} {up : List Int} {d : Nat → Nat} (h : Dec N r up d) : ∀ (f i : Nat), i < N → d i ≤ f → depU up (f + 1) i = depU up f i
  | 0, i, hi, hd => by
    have : upn up i = i := Decidable.byContradiction fun e => by have := h.dec i hi e; omega
    show (if upn up i = i then 0 else depU up 0 (upn up i) + 1) = 0
    rw [if_pos this]
  | f + 1, i, hi, hd => by
    show (if upn up i = i then 0 else depU up (f + 1) (upn up i) + 1) = (if upn up i = i then 0 else depU up f (upn up i) + 1)
    by_cases e : upn up i = i
    · rw [if_pos e, if_pos e]
    · rw [if_neg e, if_neg e, depU_more h f _ (h.lt i hi) (by have := h.dec i hi e; omega)]
theorem dec_okUp {n : Nat} {r : Nat → Nat} {up : List Int} {d : Nat → Nat} (h : Dec n r up d) (hd : ∀ i, i < n → d i ≤ n) : okUp n up = true := by
  unfold okUp
  simp only [Bool.and_eq_true, decide_eq_true_eq, List.all_eq_true, List.mem_range]
  refine ⟨h.len, fun i hi => ?_⟩
  have e1 := iterU_dec h n i hi (hd i hi)
  have e2 := iterU_dec h n _ (h.lt i hi) (hd _ (h.lt i hi))
  have e3 := iterU_dec h n _ (h.rlt i hi) (hd _ (h.rlt i hi))
  simp only [okAt, Bool.and_eq_true, decide_eq_true_eq, Bool.or_eq_true, beq_iff_eq, decide_eq_decide]
  rw [e1, e2, e3]
  refine ⟨⟨⟨⟨⟨⟨h.nn i hi, h.lt i hi⟩, h.cls i hi⟩, h.fix i hi⟩, h.rlt i hi⟩, h.rr i hi⟩, ?_⟩
  by_cases e : upn up i = i
  · exact .inl e
  · right
    have hn : 0 < n := by omega
    obtain ⟨m, rfl⟩ : ∃ m, n = m + 1 := ⟨n - 1, by omega⟩
    have hlt := h.dec i hi e
    have := hd i hi
    rw [depU_more h m (upn up i) (h.lt i hi) (by omega)]
    show depU up m (upn up i) < depU up (m + 1) i
    rw [depU, if_neg e]; omega
theorem allTop_dec {n : Nat} {r : Nat → Nat} {up : List Int} {d : Nat → Nat} (h : Dec n r up d) (hd : ∀ i, i < n → d i ≤ n) : ∀ t, t ≤ 2 * n → Dec n r (allTop n up t) d
  | 0, _ => h
  | t + 1, ht => (topF_spec n (allTop_dec h hd t (by omega)) (by omega) (hd _ (by omega))).2
theorem gcl_congr {r r' : Nat → Nat} {k : Nat} (h : ∀ i, i < k → r i = r' i) (x : Int) : gcl r k x = gcl r' k x := by
  unfold gcl
  congr 1
  refine List.filter_congr fun i hi => ?_
  rw [h i (List.mem_range.1 hi)]
theorem cls_congr {r r' : Nat → Nat} {k : Nat} (h : ∀ i, i < k → r i = r' i) : cls r k = cls r' k := by
  unfold cls
  have e : (List.range k).filter (fun i => decide (ghd (gcl r k (r i)) = (i : Int))) = (List.range k).filter fun i => decide (ghd (gcl r' k (r' i)) = (i : Int)) :=
    List.filter_congr fun i hi => by rw [gcl_congr h, h i (List.mem_range.1 hi)]
  rw [e]
  refine List.map_congr_left fun i hi => ?_
  rw [gcl_congr h, h i (List.mem_range.1 (List.mem_filter.1 hi).1)]
def decI : List AV → Option (List Int)
  | [] => some []
  | .int .i64 z :: r => (match decI r with | some l => some (z :: l) | none => none)
  | _ => none
theorem decI_cI : ∀ l : List Int, decI (cI l) = some l
  | [] => rfl
  | z :: l => by have := decI_cI l; simp only [cI, List.map_cons] at this ⊢; rw [decI, this]
theorem decI_spec : ∀ {c : List AV} {l : List Int}, decI c = some l → c = cI l
  | [], l, h => by simp only [decI, Option.some.injEq] at h; subst h; rfl
  | x :: c, l, h => by
    unfold decI at h
    split at h
    · rename_i h1; cases h1
    · rename_i z r heq
      cases heq
      split at h
      · rename_i l' hl'
        cases h
        rw [decI_spec hl']; rfl
      · cases h
    · cases h
/-- Rows of rows, as a value. -/
def rowsV (rows : List (List Int)) : AV := if rows = [] then .nils else .vs rows.length 1 (rows.map vI)
def clsExt (args : List AV) (H : Heap) : Option (Out AV) :=
  match args with
  | [.ptr b g 0] => (match H[b]? with
    | some (.cells g' false [.sl b1 g1 0 n 1 n' true, s, cn]) => if g' = g ∧ n' = n ∧ n ≤ 1000 ∧ b ≠ b1 then (match H[b1]? with
      | some (.cells g1' false cs) => if g1' = g1 then (match decI cs with
        | some up => if okUp n up = true then some (.ok (rowsV (cls (iterU up n) n)) (H.set b1 (.cells g1 false (cI (allTop n up (2 * n)))))) else none
        | none => none) else none
      | _ => none) else none
    | _ => none)
  | _ => none
/-- From block n1 on, what lies in the world changes no more. -/
def sealM (μ : Mu) (n1 : Nat) (W : World) : Mu := ⟨μ.pl, fun k o => if n1 ≤ k then W.cell? ⟨k, o, none⟩ else μ.im k o⟩
theorem seal_le {μ : Mu} {n1 : Nat} {W : World} (him : ∀ k o u, μ.im k o = some u → k < n1) : μ.le (sealM μ n1 W) :=
  ⟨fun _ _ _ h => h, fun k o u h => by have := him k o u h; simp only [sealM]; rw [if_neg (by omega)]; exact h⟩
theorem HR.seal {B n1 : Nat} {μ : Mu} {H : Heap} {W : World} (h : HR B μ H W) (hpl : ∀ (b : Nat) o a, H[b]? = some o → o ≠ .dead → μ b o.gen = some a → a.blk < n1) (him : ∀ k o u, μ.im k o = some u → k < n1) : HR B (sealM μ n1 W) H W where
  ob b o hb hd := by
    obtain ⟨a, ha, hob⟩ := h.ob b o hb hd
    exact ⟨a, ha, hob.keep (seal_le him) rfl (Nat.le_refl _)⟩
  sep := h.sep
  gen := h.gen
  fresh := h.fresh
  base := h.base
  im k o u hu := by
    simp only [sealM] at hu
    split at hu
    · refine ⟨?_, hu⟩
      simp only [World.cell?] at hu
      refine Decidable.byContradiction fun h => ?_
      rw [Array.getElem?_eq_none (by omega)] at hu; simp at hu
    · exact h.im k o u hu
  imsep b o a k j u hb hr ha hu := by
    simp only [sealM] at hu
    split at hu
    · have := hpl b o a hb (fun e => by rw [e] at hr; simp [Ob.rw] at hr) ha
      omega
    · exact h.imsep b o a k j u hb hr ha hu
end Go.Ai
/- part: New, is, top. -/
namespace Go.Ai.G
open Go.Ai
set_option maxRecDepth 100000
set_option linter.unusedSimpArgs false
set_option linter.unusedVariables false
variable {A : AProg} {φ : Nat → Nat}
attribute [local simp ↓] getD_z getD_s hid_k hid_o hid_q hid_v PO_nil PO_none PO_grd PD_nil PD_none PD_grd PDO_N PDO_X PDO_call PDO_calli PDO_callv PStep_N PStep_X PStep_call PStep_calli PC_skip PC_lab
  PC_ret PC_exit PC_reg PC_draw PC_seq PC_block PC_loop PC_scope PC_cond thenC_norm thenC_ret thenC_exit blockC_norm blockC_ret blockC_exit loopC_norm loopC_ret loopC_exit endR_ret
  endR_norm
attribute [local simp] gz PDX_free PDX_eq PStep_callv resK_none resK_t resK_tt KNO_val KNO_new KNO_ite KNO_map KXO_some KXO_ite KVA_t KVA_f KG_skip KG_tt KG_ff KG_tf KG_ft KB_true KB_false KNOD_val
  KNOD_new KNOD_ite n_mv n_pick n_bin n_eqB n_eqN n_eqS n_un n_conv n_fadd n_faddV n_fld1 n_fldN n_idx n_idxA n_idxV n_idxAV n_ext n_lenS n_lenS0 n_lenV n_lenT n_lenA n_min n_max
  n_build n_mkfn n_slc n_slc0 n_slcV n_slcA n_load1 n_loadN n_load1V n_loadNV n_alloc n_box n_bsl n_mksl n_nilcP n_nilcV n_nilcI n_nilcF x_store x_clear0 x_clear b_add b_sub b_mul
  b_eql b_neq b_lss b_leq b_gtr b_geq b_and16 unV ntouch gather hide unhide evalOpd applyOuts int_bne int_beq ite_bool ite_int one_bool cells_bool one_int cells_int one_str cells_str
  one_nilp cells_nilp one_ptr cells_ptr one_nils cells_nils one_sl cells_sl one_nilf cells_nilf one_fn cells_fn one_nili cells_nili one_mp cells_mp one_nilm cells_nilm one_iface
  cells_iface one_vs cells_vs one_vp cells_vp cells_agg Nat.testBit setAt_1 setAt_2 closeds_nil closeds_cons closed_bool closed_int closed_str closed_nilp closed_nils closed_nilm
  closed_nilf closed_nili closed_agg closed_tup closed_vs closed_vp closed_iface closed_fn closeds_cI closeds_cE viewA_closed viewR_closed AV.scal AV.scal0 fillA repA part_bool
  part_int part_str part_nilp part_ptr part_nils part_sl part_nilm part_mp part_nilf part_fn part_nili part_iface part_agg part_vs part_vp viewA_sl1 vaSl_cells wrap_0 wrap_1 wrap_2
  wrap_m1 set_last get_last
theorem er60_0 (φ : Nat → Nat) : r60_0 φ = [
  ⟨0, .N .mv, [.c (.nilp)], none, 0⟩] := Eq.trans rfl rfl
theorem er60_1 (φ : Nat → Nat) : r60_1 φ = [
  ⟨0, .N .mv, [.n 0], none, 0⟩,
  ⟨1, .N .max, [.l 0, .c (.int .i64 0)], none, 0⟩,
  ⟨2, .N .min, [.l 0, .c (.int .i64 1000)], none, 0⟩,
  ⟨3, .N .mv, [.l 0], none, 0⟩] := Eq.trans rfl rfl
theorem er60_2 (φ : Nat → Nat) : r60_2 φ = [
  ⟨0, .N .mv, [.n 0], none, 0⟩,
  ⟨1, .N (.mksl [.int .i64 0] 1 8), [.l 0, .l 0], none, 1⟩,
  ⟨2, .N .mv, [.n 0], none, 0⟩,
  ⟨3, .N (.mksl [.int .i64 0] 1 8), [.l 0, .l 0], none, 4⟩,
  ⟨4, .N .mv, [.n 0], none, 0⟩,
  ⟨5, .N (.build [.nils, .nils, .int .i64 0] [(0, 1), (1, 1), (2, 1)]), [.l 3, .l 1, .l 0], none, 31⟩,
  ⟨6, .N .box, [.l 0], none, 63⟩,
  ⟨7, .N .mv, [.l 0], none, 127⟩] := Eq.trans rfl rfl
theorem er60_3 (φ : Nat → Nat) : r60_3 φ = [
  ⟨0, .N .mv, [.n 0], none, 0⟩,
  ⟨1, .N .mv, [.c (.int .i64 0)], none, 0⟩] := Eq.trans rfl rfl
theorem er60_4 (φ : Nat → Nat) : r60_4 φ = [
  ⟨0, .N (.bin .lss), [.n 5, .n 4], none, 0⟩] := Eq.trans rfl rfl
theorem er60_5 (φ : Nat → Nat) : r60_5 φ = [
  ⟨0, .N .mv, [.n 5], none, 0⟩,
  ⟨1, .N .mv, [.l 0], none, 0⟩] := Eq.trans rfl rfl
theorem er60_6 (φ : Nat → Nat) : r60_6 φ = [
  ⟨0, .N .mv, [.n 2], none, 0⟩,
  ⟨1, .N .nilc, [.l 0], none, 1⟩,
  ⟨2, .N (.fadd 0), [.l 0], none, 3⟩,
  ⟨3, .N .load1, [.l 0], none, 7⟩,
  ⟨4, .N .mv, [.n 3], none, 0⟩,
  ⟨5, .N .mv, [.n 2], none, 0⟩,
  ⟨6, .N .nilc, [.l 0], none, 32⟩,
  ⟨7, .N (.fadd 1), [.l 0], none, 96⟩,
  ⟨8, .N .load1, [.l 0], none, 224⟩,
  ⟨9, .N .mv, [.n 3], none, 0⟩,
  ⟨10, .N .mv, [.n 3], none, 0⟩,
  ⟨11, .N (.idx 1), [.l 7, .l 6], none, 1535⟩,
  ⟨12, .X (.store 1), [.l 0, .l 1], none, 3583⟩,
  ⟨13, .N (.idx 1), [.l 4, .l 3], none, 8191⟩,
  ⟨14, .X (.store 1), [.l 0, .c (.int .i64 1)], none, 16383⟩] := Eq.trans rfl rfl
theorem er60_7 (φ : Nat → Nat) : r60_7 φ = [
  ⟨0, .N (.bin .add), [.n 5, .c (.int .i64 1)], none, 0⟩,
  ⟨1, .N .mv, [.l 0], none, 0⟩] := Eq.trans rfl rfl
theorem er60_9 (φ : Nat → Nat) : r60_9 φ = [
  ⟨0, .N .mv, [.n 2], none, 0⟩,
  ⟨1, .N .mv, [.l 0], none, 0⟩] := Eq.trans rfl rfl
theorem er80_0 (φ : Nat → Nat) : r80_0 φ = [
  ⟨0, .N .mv, [.c (.bool false)], none, 0⟩] := Eq.trans rfl rfl
theorem er80_1 (φ : Nat → Nat) : r80_1 φ = [
  ⟨0, .N .mv, [.n 1], none, 0⟩,
  ⟨1, .N (.bin .geq), [.l 0, .c (.int .i64 0)], none, 0⟩,
  ⟨2, .N .mv, [.l 0], none, 0⟩,
  ⟨3, .N .mv, [.n 1], some (.l 0, true), 0⟩,
  ⟨4, .N .mv, [.n 0], some (.l 1, true), 0⟩,
  ⟨5, .N .nilc, [.l 0], some (.l 2, true), 0⟩,
  ⟨6, .N (.fadd 0), [.l 0], some (.l 3, true), 0⟩,
  ⟨7, .N .load1, [.l 0], some (.l 4, true), 0⟩,
  ⟨8, .N .lenS, [.l 0], some (.l 5, true), 0⟩,
  ⟨9, .N (.bin .lss), [.l 5, .l 0], some (.l 6, true), 0⟩,
  ⟨10, .N .pick, [.l 7, .l 0, .c (.bool false)], none, 0⟩,
  ⟨11, .N .mv, [.l 0], none, 0⟩] := Eq.trans rfl rfl
theorem er81_0 (φ : Nat → Nat) : r81_0 φ = [
  ⟨0, .N .mv, [.c (.int .i64 0)], none, 0⟩] := Eq.trans rfl rfl
theorem er81_1 (φ : Nat → Nat) : r81_1 φ = [
  ⟨0, .N .mv, [.n 0], none, 0⟩,
  ⟨1, .N .nilc, [.l 0], none, 0⟩,
  ⟨2, .N (.fadd 0), [.l 0], none, 0⟩,
  ⟨3, .N .load1, [.l 0], none, 0⟩,
  ⟨4, .N .mv, [.n 1], none, 0⟩,
  ⟨5, .N (.idx 1), [.l 1, .l 0], none, 0⟩,
  ⟨6, .N .load1, [.l 0], none, 0⟩,
  ⟨7, .N .mv, [.n 1], none, 0⟩,
  ⟨8, .N (.bin .neq), [.l 1, .l 0], none, 0⟩] := Eq.trans rfl rfl
theorem er81_2 (φ : Nat → Nat) : r81_2 φ = [
  ⟨0, .N .mv, [.n 0], none, 0⟩,
  ⟨1, .N .nilc, [.l 0], none, 1⟩,
  ⟨2, .N (.fadd 0), [.l 0], none, 3⟩,
  ⟨3, .N .load1, [.l 0], none, 7⟩,
  ⟨4, .N .mv, [.n 1], none, 0⟩,
  ⟨5, .N .mv, [.n 0], none, 0⟩,
  ⟨6, .N .nilc, [.l 0], none, 32⟩,
  ⟨7, .N (.fadd 0), [.l 0], none, 96⟩,
  ⟨8, .N .load1, [.l 0], none, 224⟩,
  ⟨9, .N .mv, [.n 0], none, 0⟩,
  ⟨10, .N .nilc, [.l 0], none, 512⟩,
  ⟨11, .N (.fadd 0), [.l 0], none, 1536⟩,
  ⟨12, .N .load1, [.l 0], none, 3584⟩,
  ⟨13, .N .mv, [.n 1], none, 0⟩,
  ⟨14, .N (.idx 1), [.l 1, .l 0], none, 15872⟩,
  ⟨15, .N .load1, [.l 0], none, 32256⟩,
  ⟨16, .N (.idx 1), [.l 7, .l 0], none, 65504⟩,
  ⟨17, .N .load1, [.l 0], none, 131040⟩,
  ⟨18, .N (.idx 1), [.l 14, .l 13], none, 262143⟩,
  ⟨19, .X (.store 1), [.l 0, .l 1], none, 524287⟩] := Eq.trans rfl rfl
theorem er81_3 (φ : Nat → Nat) : r81_3 φ = [
  ⟨0, .N .mv, [.n 0], none, 0⟩,
  ⟨1, .N .nilc, [.l 0], none, 0⟩,
  ⟨2, .N (.fadd 0), [.l 0], none, 0⟩,
  ⟨3, .N .load1, [.l 0], none, 0⟩,
  ⟨4, .N .mv, [.n 1], none, 0⟩,
  ⟨5, .N (.idx 1), [.l 1, .l 0], none, 0⟩,
  ⟨6, .N .load1, [.l 0], none, 0⟩,
  ⟨7, .N .mv, [.l 0], none, 0⟩] := Eq.trans rfl rfl
theorem er81_5 (φ : Nat → Nat) : r81_5 φ = [
  ⟨0, .N .mv, [.n 1], none, 0⟩,
  ⟨1, .N .mv, [.l 0], none, 0⟩] := Eq.trans rfl rfl
/-- A Part in the memory. -/
structure PartAt (H : Heap) (b bu bs N : Nat) (up sz : List Int) (cnt : Int) : Prop where
  hb : H[b]? = some (.cells 0 false [.sl bu 0 0 N 1 N true, .sl bs 0 0 N 1 N true, .int .i64 cnt])
  hu : H[bu]? = some (.cells 0 false (cI up))
  hs : H[bs]? = some (.cells 0 false (cI sz))
  lu : up.length = N
  ls : sz.length = N
  ne : b ≠ bu ∧ b ≠ bs ∧ bu ≠ bs
theorem set_id {H : Heap} {b : Nat} {x : Ob} (h : H[b]? = some x) : H.set b x = H := by
  apply List.ext_getElem?
  intro i
  rw [List.getElem?_set]
  split
  · rename_i e; subst e
    rw [if_pos (lt_of_get h), h]
  · rfl
theorem w_is (h : Has A (φ 80) (f80 φ)) {H : Heap} {b bu bs N : Nat} {up sz : List Int} {cnt : Int} (p : PartAt H b bu bs N up sz cnt) (a : Int) (K : AV → Heap → Prop) (hK : K (.bool (decide (0 ≤ a ∧ a < N))) H) :
    PCall A (φ 80) [.ptr b 0 0, .int .i64 a] H K := by
  have hb := p.hb
  refine pcall_has h rfl ?_
  simp only [b80, f80]
  by_cases q1 : 0 ≤ a
  · have e : decide (0 ≤ a ∧ a < (N : Int)) = decide (a < (N : Int)) := by simp [q1]
    rw [e] at hK
    simp [-List.getD_eq_getElem?_getD, -Int.ofNat_toNat, -getElem?_pos, er80_0, er80_1, hb, q1, resK, resVs, resV, pack]
    exact hK
  · have e : decide (0 ≤ a ∧ a < (N : Int)) = false := by simp [q1]
    rw [e] at hK
    simp [-List.getD_eq_getElem?_getD, -Int.ofNat_toNat, -getElem?_pos, er80_0, er80_1, hb, q1, resK, resVs, resV, pack]
    exact hK
theorem w_top (h : Has A (φ 81) (f81 φ)) {H : Heap} {b bu bs N : Nat} {up sz : List Int} {cnt : Int} (p : PartAt H b bu bs N up sz cnt) {r d : Nat → Nat} (hD : Dec N r up d) {a : Nat} (ha : a < N) (hda : d a ≤ N)
    (K : AV → Heap → Prop) (hK : K (.int .i64 (r a : Nat)) (H.set bu (.cells 0 false (cI (topF N up a).2)))) : PCall A (φ 81) [.ptr b 0 0, .int .i64 a] H K := by
  have hb := p.hb
  have hne := p.ne
  have hbl := lt_of_get p.hu
  refine pcall_has h rfl ?_
  simp only [l81_4, b81, f81]
  simp [-List.getD_eq_getElem?_getD, -Int.ofNat_toNat, -getElem?_pos, er81_0, er81_1, er81_2, er81_3, er81_5]
  refine pc_loopI (fun m st => ∃ (a' f : Nat) (up' : List Int) (p3 : AV), m = d a' ∧ a' < N ∧ Dec N r up' d ∧ d a' ≤ f ∧ r a' = r a ∧ topF f up' a' = topF N up a ∧
    st = ([.ptr b 0 0, .int .i64 a', .int .i64 0, p3], H.set bu (.cells 0 false (cI up')))) (d a) ⟨a, N, up, _, rfl, ha, hD, hda, rfl, rfl, by rw [set_id p.hu]⟩ ?_
  rintro m st ⟨a', f, up', p3, rfl, ha', hD', hf, hra, htf, rfl⟩
  have hb2 : ∀ x, (H.set bu x)[b]? = some (.cells 0 false [.sl bu 0 0 N 1 N true, .sl bs 0 0 N 1 N true, .int .i64 cnt]) := fun x => by rw [List.getElem?_set_ne (fun e => hne.1 e.symm)]; exact hb
  have hu2 : ∀ x, (H.set bu x)[bu]? = some x := fun x => List.getElem?_set_self hbl
  have ha2 : (a' : Int) < N := by omega
  have g1 : (cI up')[a']? = some (.int .i64 (upn up' a' : Nat)) := by simp only [cI, List.getElem?_map, hD'.nn a' ha']; rfl
  have hcl : (cI up').length = N := by simp [cI, hD'.len]
  by_cases e : upn up' a' = a'
  · have er : r a = a' := by rw [← hra]; exact (hD'.fix a' ha').1 e
    have ht : topF N up a = (a', up') := by rw [← htf, topF_stop e]
    rw [ht, er] at hK
    rw [e] at g1
    simp [-List.getD_eq_getElem?_getD, -Int.ofNat_toNat, -getElem?_pos, er81_0, er81_1, er81_2, er81_3, er81_5, hb2, hu2, ha2, ha', g1, resK, resVs, resV, pack]
    exact hK
  · obtain ⟨h1, h2, h3, h4⟩ := hD'.step ha' e
    have hb1 := hD'.lt a' ha'
    have hb1' : ((upn up' a' : Nat) : Int) < N := by omega
    have g2 : (cI up')[upn up' a']? = some (.int .i64 (upn up' (upn up' a') : Nat)) := by simp only [cI, List.getElem?_map, hD'.nn _ hb1]; rfl
    have s1 := setAt_one (c := cI up') (o := a') (.int .i64 (upn up' (upn up' a') : Nat)) (by omega)
    have hset : (cI up').set a' (.int .i64 (upn up' (upn up' a') : Nat)) = cI (up'.set a' (upn up' (upn up' a') : Int)) := by simp [cI, List.map_set]
    have g3 : (cI (up'.set a' (upn up' (upn up' a') : Int)))[a']? = some (.int .i64 (upn up' (upn up' a') : Nat)) := by
      rw [← hset, List.getElem?_set_self (by omega)]
    have hle : a' + 1 ≤ N := by omega
    have e' : ¬ ((upn up' a' : Nat) : Int) = (a' : Int) := by omega
    simp [-List.getD_eq_getElem?_getD, -Int.ofNat_toNat, -getElem?_pos, er81_0, er81_1, er81_2, er81_3, er81_5, hb2, hu2, ha2, ha', hb1, hb1', g1, g2, e, e', s1, hset, hcl, hle, g3]
    refine next_mk (d (upn up' (upn up' a'))) h3 ⟨_, f - 1, _, _, rfl, h2, h1, by omega, h4.trans hra, ?_, rfl⟩
    rw [← htf]
    obtain ⟨f', rfl⟩ : ∃ f', f = f' + 1 := ⟨f - 1, by omega⟩
    rw [topF, if_neg e]; rfl
end Go.Ai.G
/- part: New, Same, Join, Count. -/
namespace Go.Ai.G
open Go.Ai
set_option maxRecDepth 100000
set_option linter.unusedSimpArgs false
set_option linter.unusedVariables false
variable {A : AProg} {φ : Nat → Nat}
attribute [local simp ↓] getD_z getD_s hid_k hid_o hid_q hid_v PO_nil PO_none PO_grd PD_nil PD_none PD_grd PDO_N PDO_X PDO_call PDO_calli PDO_callv PStep_N PStep_X PStep_call PStep_calli PC_skip PC_lab
  PC_ret PC_exit PC_reg PC_draw PC_seq PC_block PC_loop PC_scope PC_cond thenC_norm thenC_ret thenC_exit blockC_norm blockC_ret blockC_exit loopC_norm loopC_ret loopC_exit endR_ret
  endR_norm
attribute [local simp] gz PDX_free PDX_eq PStep_callv resK_none resK_t resK_tt KNO_val KNO_new KNO_ite KNO_map KXO_some KXO_ite KVA_t KVA_f KG_skip KG_tt KG_ff KG_tf KG_ft KB_true KB_false KNOD_val
  KNOD_new KNOD_ite n_mv n_pick n_bin n_eqB n_eqN n_eqS n_un n_conv n_fadd n_faddV n_fld1 n_fldN n_idx n_idxA n_idxV n_idxAV n_ext n_lenS n_lenS0 n_lenV n_lenT n_lenA n_min n_max
  n_build n_mkfn n_slc n_slc0 n_slcV n_slcA n_load1 n_loadN n_load1V n_loadNV n_alloc n_box n_bsl n_mksl n_nilcP n_nilcV n_nilcI n_nilcF x_store x_clear0 x_clear b_add b_sub b_mul
  b_eql b_neq b_lss b_leq b_gtr b_geq b_and16 unV ntouch gather hide unhide evalOpd applyOuts int_bne int_beq ite_bool ite_int one_bool cells_bool one_int cells_int one_str cells_str
  one_nilp cells_nilp one_ptr cells_ptr one_nils cells_nils one_sl cells_sl one_nilf cells_nilf one_fn cells_fn one_nili cells_nili one_mp cells_mp one_nilm cells_nilm one_iface
  cells_iface one_vs cells_vs one_vp cells_vp cells_agg Nat.testBit setAt_1 setAt_2 closeds_nil closeds_cons closed_bool closed_int closed_str closed_nilp closed_nils closed_nilm
  closed_nilf closed_nili closed_agg closed_tup closed_vs closed_vp closed_iface closed_fn closeds_cI closeds_cE viewA_closed viewR_closed AV.scal AV.scal0 fillA repA part_bool
  part_int part_str part_nilp part_ptr part_nils part_sl part_nilm part_mp part_nilf part_fn part_nili part_iface part_agg part_vs part_vp viewA_sl1 vaSl_cells wrap_0 wrap_1 wrap_2
  wrap_m1 set_last get_last
theorem er64_0 (φ : Nat → Nat) : r64_0 φ = [
  ⟨0, .N .mv, [.c (.bool false)], none, 0⟩] := Eq.trans rfl rfl
theorem er64_1 (φ : Nat → Nat) : r64_1 φ = [
  ⟨0, .N .mv, [.n 0], none, 0⟩,
  ⟨1, .N .mv, [.n 1], none, 0⟩,
  ⟨2, .call (φ 80), [.l 1, .l 0], none, 0⟩,
  ⟨3, .N (.un .not), [.l 0], none, 0⟩,
  ⟨4, .N .mv, [.l 0], none, 0⟩,
  ⟨5, .N .mv, [.n 0], some (.l 0, false), 0⟩,
  ⟨6, .N .mv, [.n 2], some (.l 1, false), 0⟩,
  ⟨7, .call (φ 80), [.l 1, .l 0], some (.l 2, false), 0⟩,
  ⟨8, .N (.un .not), [.l 0], some (.l 3, false), 0⟩,
  ⟨9, .N .pick, [.l 4, .c (.bool true), .l 0], none, 0⟩] := Eq.trans rfl rfl
theorem er64_2 (φ : Nat → Nat) : r64_2 φ = [
  ⟨0, .N .mv, [.c (.bool false)], none, 0⟩] := Eq.trans rfl rfl
theorem er64_3 (φ : Nat → Nat) : r64_3 φ = [
  ⟨0, .N .mv, [.n 0], none, 0⟩,
  ⟨1, .N .mv, [.n 1], none, 0⟩,
  ⟨2, .call (φ 81), [.l 1, .l 0], none, 0⟩,
  ⟨3, .N .mv, [.n 0], none, 0⟩,
  ⟨4, .N .mv, [.n 2], none, 0⟩,
  ⟨5, .call (φ 81), [.l 1, .l 0], none, 0⟩,
  ⟨6, .N .mv, [.l 3], none, 0⟩,
  ⟨7, .N .mv, [.l 1], none, 0⟩] := Eq.trans rfl rfl
theorem er64_4 (φ : Nat → Nat) : r64_4 φ = [
  ⟨0, .N .mv, [.n 4], none, 0⟩,
  ⟨1, .N .mv, [.n 5], none, 0⟩,
  ⟨2, .N (.bin .eql), [.l 1, .l 0], none, 0⟩] := Eq.trans rfl rfl
theorem er64_5 (φ : Nat → Nat) : r64_5 φ = [
  ⟨0, .N .mv, [.c (.bool false)], none, 0⟩] := Eq.trans rfl rfl
theorem er64_6 (φ : Nat → Nat) : r64_6 φ = [
  ⟨0, .N .mv, [.n 0], none, 0⟩,
  ⟨1, .N .nilc, [.l 0], none, 1⟩,
  ⟨2, .N (.fadd 1), [.l 0], none, 3⟩,
  ⟨3, .N .load1, [.l 0], none, 7⟩,
  ⟨4, .N .mv, [.n 4], none, 0⟩,
  ⟨5, .N (.idx 1), [.l 1, .l 0], none, 31⟩,
  ⟨6, .N .load1, [.l 0], none, 63⟩,
  ⟨7, .N .mv, [.n 0], none, 0⟩,
  ⟨8, .N .nilc, [.l 0], none, 128⟩,
  ⟨9, .N (.fadd 1), [.l 0], none, 384⟩,
  ⟨10, .N .load1, [.l 0], none, 896⟩,
  ⟨11, .N .mv, [.n 5], none, 0⟩,
  ⟨12, .N (.idx 1), [.l 1, .l 0], none, 3968⟩,
  ⟨13, .N .load1, [.l 0], none, 8064⟩,
  ⟨14, .N (.bin .lss), [.l 7, .l 0], none, 16383⟩] := Eq.trans rfl rfl
theorem er64_7 (φ : Nat → Nat) : r64_7 φ = [
  ⟨0, .N .mv, [.n 5], none, 0⟩,
  ⟨1, .N .mv, [.n 4], none, 0⟩,
  ⟨2, .N .mv, [.l 1], none, 0⟩,
  ⟨3, .N .mv, [.l 1], none, 0⟩] := Eq.trans rfl rfl
theorem er64_8 (φ : Nat → Nat) : r64_8 φ = [
  ⟨0, .N .mv, [.n 0], none, 0⟩,
  ⟨1, .N .nilc, [.l 0], none, 0⟩,
  ⟨2, .N (.fadd 0), [.l 0], none, 0⟩,
  ⟨3, .N .load1, [.l 0], none, 0⟩,
  ⟨4, .N .mv, [.n 5], none, 0⟩,
  ⟨5, .N .mv, [.n 4], none, 0⟩,
  ⟨6, .N (.idx 1), [.l 2, .l 1], none, 0⟩,
  ⟨7, .X (.store 1), [.l 0, .l 1], none, 0⟩] := Eq.trans rfl rfl
theorem er64_9 (φ : Nat → Nat) : r64_9 φ = [
  ⟨0, .N .mv, [.n 0], none, 0⟩,
  ⟨1, .N .nilc, [.l 0], none, 1⟩,
  ⟨2, .N (.fadd 1), [.l 0], none, 3⟩,
  ⟨3, .N .load1, [.l 0], none, 7⟩,
  ⟨4, .N .mv, [.n 4], none, 0⟩,
  ⟨5, .N (.idx 1), [.l 1, .l 0], none, 31⟩,
  ⟨6, .N .load1, [.l 0], none, 63⟩,
  ⟨7, .N .mv, [.n 0], none, 0⟩,
  ⟨8, .N .nilc, [.l 0], none, 128⟩,
  ⟨9, .N (.fadd 1), [.l 0], none, 384⟩,
  ⟨10, .N .load1, [.l 0], none, 896⟩,
  ⟨11, .N .mv, [.n 5], none, 0⟩,
  ⟨12, .N (.idx 1), [.l 1, .l 0], none, 3968⟩,
  ⟨13, .N .load1, [.l 0], none, 8064⟩,
  ⟨14, .N (.bin .add), [.l 7, .l 0], none, 16383⟩,
  ⟨15, .N (.idx 1), [.l 11, .l 10], none, 32767⟩,
  ⟨16, .X (.store 1), [.l 0, .l 1], none, 65535⟩] := Eq.trans rfl rfl
theorem er64_10 (φ : Nat → Nat) : r64_10 φ = [
  ⟨0, .N .mv, [.n 0], none, 0⟩,
  ⟨1, .N .nilc, [.l 0], none, 0⟩,
  ⟨2, .N (.fadd 2), [.l 0], none, 0⟩,
  ⟨3, .N .load1, [.l 0], none, 0⟩,
  ⟨4, .N (.bin .sub), [.l 0, .c (.int .i64 1)], none, 0⟩,
  ⟨5, .N .nilc, [.l 4], none, 0⟩,
  ⟨6, .N (.fadd 2), [.l 0], none, 0⟩,
  ⟨7, .X (.store 1), [.l 0, .l 2], none, 0⟩] := Eq.trans rfl rfl
theorem er64_11 (φ : Nat → Nat) : r64_11 φ = [
  ⟨0, .N .mv, [.c (.bool true)], none, 0⟩] := Eq.trans rfl rfl
/-- How many have this own number. -/
def csz (N : Nat) (r : Nat → Nat) (x : Nat) : Nat := (List.range N).countP fun i => decide (r i = x)
def Rep (N : Nat) (r : Nat → Nat) (up : List Int) : Prop := ∃ d, Dec N r up d ∧ ∀ i, i < N → d i < csz N r (r i)
theorem csz_le (N : Nat) (r : Nat → Nat) (x : Nat) : csz N r x ≤ N := by
  unfold csz
  exact Nat.le_trans List.countP_le_length (by simp)
theorem csz_pos {N : Nat} {r : Nat → Nat} {i : Nat} (hi : i < N) : 0 < csz N r (r i) := by
  unfold csz
  rw [List.countP_pos_iff]
  exact ⟨i, List.mem_range.2 hi, by simp⟩
theorem csz_join {N : Nat} {r : Nat → Nat} {x y : Nat} (hne : x ≠ y) : csz N (fun i => if r i = y then x else r i) x = csz N r x + csz N r y := by
  unfold csz
  induction (List.range N) with
  | nil => rfl
  | cons i l ih =>
    have hyx : ¬ y = x := fun e => hne e.symm
    simp only [List.countP_cons]
    simp only at ih
    rw [ih]
    by_cases h1 : r i = y
    · simp only [h1, if_true, decide_true, decide_eq_false hyx]; simp; omega
    · simp only [h1, if_false, decide_false]
      by_cases h2 : r i = x <;> simp [h2] <;> omega
theorem csz_other {N : Nat} {r : Nat → Nat} {x y z : Nat} (h1 : z ≠ x) (h2 : z ≠ y) : csz N (fun i => if r i = y then x else r i) z = csz N r z := by
  unfold csz
  congr 1
  funext i
  by_cases h : r i = y
  · have e1 : ¬ x = z := fun e => h1 e.symm
    have e2 : ¬ y = z := fun e => h2 e.symm
    simp [h, e1, e2]
  · simp [h]
theorem rep_join {N : Nat} {r : Nat → Nat} {up : List Int} {x y : Nat} (h : Rep N r up) (hx : x < N) (hy : y < N) (rx : r x = x) (ry : r y = y) (hne : x ≠ y) : Rep N (fun i => if r i = y then x else r i) (up.set y (x : Int)) := by
  obtain ⟨d, D, hd⟩ := h
  have hs := fun i => upn_set (up := up) x (by rw [D.len]; exact hy) i
  have hxy : ¬ r x = y := fun e => hne (rx.symm.trans e)
  refine ⟨fun i => if r i = y then d i + d x + 1 else d i, ⟨by rw [List.length_set]; exact D.len, fun i hi => ?_, fun i hi => ?_, fun i hi => ?_, fun i hi => ?_, fun i hi => ?_, fun i hi => ?_, fun i hi hn => ?_⟩, fun i hi => ?_⟩
  · rw [hs, List.getElem?_set]
    by_cases e : i = y
    · subst e; rw [if_pos rfl, if_pos rfl, if_pos (by rw [D.len]; exact hi)]
    · rw [if_neg (fun z => e z.symm), if_neg e]; exact D.nn i hi
  · rw [hs]; split
    · exact hx
    · exact D.lt i hi
  · rw [hs]
    by_cases e : i = y
    · subst e; rw [if_pos rfl, if_neg hxy, if_pos ry, rx]
    · rw [if_neg e, D.cls i hi]
  · rw [hs]
    by_cases e : i = y
    · subst e; rw [if_pos rfl, if_pos ry]
    · rw [if_neg e]
      by_cases e2 : r i = y
      · rw [if_pos e2]
        constructor
        · intro q; have := (D.fix i hi).1 q; exact absurd (this.symm.trans e2) e
        · intro q; subst q; exact absurd e2 hxy
      · rw [if_neg e2]; exact D.fix i hi
  · split
    · exact hx
    · exact D.rlt i hi
  · by_cases e2 : r i = y
    · rw [if_pos e2, if_neg hxy, rx]
    · rw [if_neg e2, if_neg (by rw [D.rr i hi]; exact e2), D.rr i hi]
  · rw [hs] at hn ⊢
    by_cases e : i = y
    · subst e; rw [if_pos rfl, if_neg hxy, if_pos ry]; omega
    · rw [if_neg e] at hn ⊢
      have := D.dec i hi hn
      rw [D.cls i hi]
      split <;> omega
  · have h1 := hd i hi
    show (if r i = y then d i + d x + 1 else d i) < csz N (fun i => if r i = y then x else r i) (if r i = y then x else r i)
    by_cases e2 : r i = y
    · rw [if_pos e2, if_pos e2, csz_join hne]
      rw [e2] at h1
      have h2 := hd x hx
      rw [rx] at h2
      omega
    · rw [if_neg e2, if_neg e2]
      by_cases e3 : r i = x
      · rw [e3, csz_join hne]; rw [e3] at h1; omega
      · rw [csz_other e3 e2]; exact h1
/-- A Part in the memory, its numbers' own ones r. -/
def PS (H : Heap) (b bu bs N : Nat) (r : Nat → Nat) (cnt : Int) : Prop := ∃ up sz, PartAt H b bu bs N up sz cnt ∧ Rep N r up
theorem w_top2 (h : Has A (φ 81) (f81 φ)) {H : Heap} {b bu bs N : Nat} {r : Nat → Nat} {cnt : Int} (p : PS H b bu bs N r cnt) {a : Nat} (ha : a < N) (K : AV → Heap → Prop)
    (hK : ∀ H', PS H' b bu bs N r cnt → (∀ k, k ≠ bu → H'[k]? = H[k]?) → H'.length = H.length → K (.int .i64 (r a : Nat)) H') : PCall A (φ 81) [.ptr b 0 0, .int .i64 a] H K := by
  obtain ⟨up, sz, pa, d, D, hd⟩ := p
  have hda : ∀ i, i < N → d i ≤ N := fun i hi => by have := hd i hi; have := csz_le N r (r i); omega
  refine w_top h pa D ha (hda a ha) K (hK _ ⟨_, sz, ⟨?_, List.getElem?_set_self (lt_of_get pa.hu), ?_, ((topF_spec N D ha (hda a ha)).2).len, pa.ls, pa.ne⟩, d, (topF_spec N D ha (hda a ha)).2, hd⟩ (fun k hk => List.getElem?_set_ne (fun e => hk e.symm)) (by simp))
  · rw [List.getElem?_set_ne (fun e => pa.ne.1 e.symm)]; exact pa.hb
  · rw [List.getElem?_set_ne pa.ne.2.2]; exact pa.hs
theorem w_is2 (h : Has A (φ 80) (f80 φ)) {H : Heap} {b bu bs N : Nat} {r : Nat → Nat} {cnt : Int} (p : PS H b bu bs N r cnt) (a : Int) (K : AV → Heap → Prop) (hK : K (.bool (decide (0 ≤ a ∧ a < N))) H) :
    PCall A (φ 80) [.ptr b 0 0, .int .i64 a] H K := by
  obtain ⟨up, sz, pa, _⟩ := p
  exact w_is h pa a K hK
def inN (N : Nat) (a : Int) : Prop := 0 ≤ a ∧ a < N
instance (N : Nat) (a : Int) : Decidable (inN N a) := inferInstanceAs (Decidable (0 ≤ a ∧ a < (N : Int)))
/-- What Join does to the numbers' own ones. -/
structure JoinR (N : Nat) (r r' : Nat → Nat) (a c : Int) (ok : Bool) (cnt cnt' : Int) : Prop where
  val : ok = decide (inN N a ∧ inN N c ∧ r a.toNat ≠ r c.toNat)
  no : ok = false → r' = r ∧ cnt' = cnt
  yes : ok = true → cnt' = cnt - 1 ∧ ∃ x y, x ≠ y ∧ ((x = r a.toNat ∧ y = r c.toNat) ∨ (x = r c.toNat ∧ y = r a.toNat)) ∧ r' = fun i => if r i = y then x else r i
set_option maxHeartbeats 2000000 in
theorem w_Join (h : Has A (φ 64) (f64 φ)) (hi : Has A (φ 80) (f80 φ)) (ht : Has A (φ 81) (f81 φ)) {H : Heap} {b bu bs N : Nat} {r : Nat → Nat} {cnt : Int} (p : PS H b bu bs N r cnt) (hc : 0 ≤ cnt ∧ cnt ≤ 1000) (x y : Int)
    (K : AV → Heap → Prop) (hK : ∀ H' r' cnt' ok, PS H' b bu bs N r' cnt' → (∀ k, k ≠ b → k ≠ bu → k ≠ bs → H'[k]? = H[k]?) → H'.length = H.length → JoinR N r r' x y ok cnt cnt' → K (.bool ok) H') : PCall A (φ 64) [.ptr b 0 0, .int .i64 x, .int .i64 y] H K := by
  refine pcall_has h rfl ?_
  simp only [b64, f64]
  simp [-List.getD_eq_getElem?_getD, -Int.ofNat_toNat, -getElem?_pos, er64_0, er64_1, er64_2, er64_3, er64_4, er64_5, er64_6, er64_7, er64_8, er64_9, er64_10, er64_11]
  refine w_is2 hi p x _ ?_
  simp only [hid_k]
  by_cases h1 : 0 ≤ x ∧ x < (N : Int)
  · rw [decide_eq_true h1]
    simp [-List.getD_eq_getElem?_getD, -Int.ofNat_toNat, -getElem?_pos, er64_0, er64_1, er64_2, er64_3, er64_4, er64_5, er64_6, er64_7, er64_8, er64_9, er64_10, er64_11]
    refine w_is2 hi p y _ ?_
    simp only [hid_k]
    by_cases h2 : 0 ≤ y ∧ y < (N : Int)
    · rw [decide_eq_true h2]
      simp [-List.getD_eq_getElem?_getD, -Int.ofNat_toNat, -getElem?_pos, er64_0, er64_1, er64_2, er64_3, er64_4, er64_5, er64_6, er64_7, er64_8, er64_9, er64_10, er64_11]
      obtain ⟨a, rfl⟩ : ∃ a : Nat, x = (a : Int) := ⟨x.toNat, by omega⟩
      obtain ⟨c, rfl⟩ : ∃ c : Nat, y = (c : Int) := ⟨y.toNat, by omega⟩
      refine w_top2 ht p (by omega) _ fun H1 p1 k1 l1 => ?_
      simp only [hid_k]
      simp [-List.getD_eq_getElem?_getD, -Int.ofNat_toNat, -getElem?_pos, er64_0, er64_1, er64_2, er64_3, er64_4, er64_5, er64_6, er64_7, er64_8, er64_9, er64_10, er64_11]
      refine w_top2 ht p1 (by omega) _ fun H2 p2 k2 l2 => ?_
      simp only [hid_k]
      have hk12 : ∀ k, k ≠ bu → H2[k]? = H[k]? := fun k hk => (k2 k hk).trans (k1 k hk)
      by_cases he : r a = r c
      · have hK' := hK H2 r cnt false p2 (fun k _ hk _ => hk12 k hk) (l2.trans l1) ⟨by symm; apply decide_eq_false; rintro ⟨_, _, h⟩; exact h he, fun _ => ⟨rfl, rfl⟩, fun h => by cases h⟩
        simp [-List.getD_eq_getElem?_getD, -Int.ofNat_toNat, -getElem?_pos, er64_0, er64_1, er64_2, er64_3, er64_4, er64_5, er64_6, er64_7, er64_8, er64_9, er64_10, er64_11, he, resK, resVs, resV, pack]
        exact hK'
      · obtain ⟨up, sz, pa, hr⟩ := p2
        have hr0 := hr
        obtain ⟨d, D, hd⟩ := hr0
        have ha := D.rlt a (by omega)
        have hcN := D.rlt c (by omega)
        have ra := D.rr a (by omega)
        have rc := D.rr c (by omega)
        have pb := pa.hb
        have pu := pa.hu
        have ps := pa.hs
        have hne := pa.ne
        have lb := lt_of_get pb
        have lu := lt_of_get pu
        have lS := lt_of_get ps
        have hcu : (cI up).length = N := by simp [cI, pa.lu]
        have hcs : (cI sz).length = N := by simp [cI, pa.ls]
        have he' : ¬ (r a : Int) = (r c : Int) := by omega
        have zA : (cI sz)[r a]? = some (.int .i64 (sz[r a]'(by rw [pa.ls]; exact ha))) := cI_get _
        have zC : (cI sz)[r c]? = some (.int .i64 (sz[r c]'(by rw [pa.ls]; exact hcN))) := cI_get _
        generalize sz[r a]'(by rw [pa.ls]; exact ha) = sA at *
        generalize sz[r c]'(by rw [pa.ls]; exact hcN) = sC at *
        have iA : (r a : Int) < N := by omega
        have iC : (r c : Int) < N := by omega
        have iA2 : r a + 1 ≤ N := by omega
        have iC2 : r c + 1 ≤ N := by omega
        have hw : IntKind.i64.wrap (cnt - 1) = cnt - 1 := wrap_in (by omega) (by omega)
        have hA : ∀ v : Int, setAt (cI up) (r a) [.int .i64 v] = cI (up.set (r a) v) := fun v => by rw [setAt_one _ (by omega), cI_set]
        have hC : ∀ v : Int, setAt (cI up) (r c) [.int .i64 v] = cI (up.set (r c) v) := fun v => by rw [setAt_one _ (by omega), cI_set]
        have sA' : ∀ v : Int, setAt (cI sz) (r a) [.int .i64 v] = cI (sz.set (r a) v) := fun v => by rw [setAt_one _ (by omega), cI_set]
        have sC' : ∀ v : Int, setAt (cI sz) (r c) [.int .i64 v] = cI (sz.set (r c) v) := fun v => by rw [setAt_one _ (by omega), cI_set]
        have h3 : ∀ x y z w : AV, setAt [x, y, z] 2 [w] = [x, y, w] := fun _ _ _ _ => rfl
        have gB1 : ∀ z, (H2.set bu z)[b]? = some (.cells 0 false [.sl bu 0 0 N 1 N true, .sl bs 0 0 N 1 N true, .int .i64 cnt]) := fun z => by rw [List.getElem?_set_ne (fun e => hne.1 e.symm)]; exact pb
        have gB2 : ∀ z w, ((H2.set bu z).set bs w)[b]? = some (.cells 0 false [.sl bu 0 0 N 1 N true, .sl bs 0 0 N 1 N true, .int .i64 cnt]) := fun z w => by rw [List.getElem?_set_ne (fun e => hne.2.1 e.symm)]; exact gB1 z
        have gS1 : ∀ z, (H2.set bu z)[bs]? = some (.cells 0 false (cI sz)) := fun z => by rw [List.getElem?_set_ne hne.2.2]; exact ps
        have fin : ∀ (X Y : Nat) (v : Int), X < N → Y < N → r X = X → r Y = Y → X ≠ Y → ((X = r a ∧ Y = r c) ∨ (X = r c ∧ Y = r a)) →
            K (.bool true) (((H2.set bu (.cells 0 false (cI (up.set Y (X : Int))))).set bs (.cells 0 false (cI (sz.set X v)))).set b (.cells 0 false [.sl bu 0 0 N 1 N true, .sl bs 0 0 N 1 N true, .int .i64 (cnt - 1)])) := by
          intro X Y v hX hY rX rY hXY hor
          refine hK _ (fun i => if r i = Y then X else r i) (cnt - 1) true ⟨up.set Y (X : Int), sz.set X v, ⟨List.getElem?_set_self (by simp; exact lb), ?_, ?_, by rw [List.length_set]; exact pa.lu, by rw [List.length_set]; exact pa.ls, hne⟩, rep_join hr hX hY rX rY hXY⟩ (fun k q1 q2 q3 => ?_) (by simp; omega) ⟨?_, (fun h => by cases h), fun _ => ⟨rfl, X, Y, hXY, hor, rfl⟩⟩
          · rw [List.getElem?_set_ne hne.1, List.getElem?_set_ne (fun e => hne.2.2 e.symm)]; exact List.getElem?_set_self lu
          · rw [List.getElem?_set_ne hne.2.1]; exact List.getElem?_set_self (by simp; exact lS)
          · rw [List.getElem?_set_ne (fun e => q1 e.symm), List.getElem?_set_ne (fun e => q3 e.symm), List.getElem?_set_ne (fun e => q2 e.symm)]; exact hk12 k q2
          · symm; apply decide_eq_true; exact ⟨h1, h2, by simpa using he⟩
        by_cases hlt : sA < sC
        · have hf := fin (r c) (r a) (IntKind.i64.wrap (sC + sA)) hcN ha rc ra (fun e => he e.symm) (.inr ⟨rfl, rfl⟩)
          simp [-List.getD_eq_getElem?_getD, -Int.ofNat_toNat, -getElem?_pos, er64_0, er64_1, er64_2, er64_3, er64_4, er64_5, er64_6, er64_7, er64_8, er64_9, er64_10, er64_11, he, he', pb, pu, ps, zA, zC, iA, iC, ha, hcN, hlt, hA, hC, sA', sC', h3, gB1, gB2, gS1, hcu, hcs, iA2, iC2, hw, resK, resVs, resV, pack]
          exact hf
        · have hf := fin (r a) (r c) (IntKind.i64.wrap (sA + sC)) ha hcN ra rc he (.inl ⟨rfl, rfl⟩)
          simp [-List.getD_eq_getElem?_getD, -Int.ofNat_toNat, -getElem?_pos, er64_0, er64_1, er64_2, er64_3, er64_4, er64_5, er64_6, er64_7, er64_8, er64_9, er64_10, er64_11, he, he', pb, pu, ps, zA, zC, iA, iC, ha, hcN, hlt, hA, hC, sA', sC', h3, gB1, gB2, gS1, hcu, hcs, iA2, iC2, hw, resK, resVs, resV, pack]
          exact hf
    · have e : decide (inN N x ∧ inN N y ∧ r x.toNat ≠ r y.toNat) = false := decide_eq_false (fun h => h2 h.2.1)
      have hK' := hK H r cnt false p (fun _ _ _ _ => rfl) rfl ⟨e.symm, fun _ => ⟨rfl, rfl⟩, fun h => by cases h⟩
      rw [decide_eq_false h2]
      simp [-List.getD_eq_getElem?_getD, -Int.ofNat_toNat, -getElem?_pos, er64_0, er64_1, er64_2, er64_3, er64_4, er64_5, er64_6, er64_7, er64_8, er64_9, er64_10, er64_11, resK, resVs, resV, pack]
      exact hK'
  · have e : decide (inN N x ∧ inN N y ∧ r x.toNat ≠ r y.toNat) = false := decide_eq_false (fun h => h1 h.1)
    have hK' := hK H r cnt false p (fun _ _ _ _ => rfl) rfl ⟨e.symm, fun _ => ⟨rfl, rfl⟩, fun h => by cases h⟩
    rw [decide_eq_false h1]
    simp [-List.getD_eq_getElem?_getD, -Int.ofNat_toNat, -getElem?_pos, er64_0, er64_1, er64_2, er64_3, er64_4, er64_5, er64_6, er64_7, er64_8, er64_9, er64_10, er64_11, resK, resVs, resV, pack]
    exact hK'
end Go.Ai.G
