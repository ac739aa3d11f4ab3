/- A part of what the law leans on: the abstract machine, the contracts, the rows. -/
import Derived.Test.YtdpjeplagapdgaaK0
import Derived.Laws.Slices
/- The operations that write to no object do as the model's (part three): slices, loads, what is built and made. -/
namespace Go.Ai
set_option linter.unusedSectionVars false
variable [DrMode]
set_option linter.unusedVariables false
set_option linter.unusedSimpArgs false
variable {P : Program} {μ : Mu} {w : World} {ρ : Operand → Value} {o : Oper}

theorem intArg_spec {v : AV} {u : Value} {n : Int} (h : VR μ v u) (hn : intArg v = some n) : ∃ k, u = .int k n := by
  cases v <;> simp [intArg] at hn
  subst hn; cases h; exact ⟨_, rfl⟩
theorem run_bounds {isS : Bool} {len cap cap' : Nat} {lo hi mx : Option Value} {vs : List AV} {l h m : Nat} (hcap : cap ≤ cap') (hb : bounds3 len cap lo.isSome hi.isSome mx.isSome vs = some (l, h, m))
    (hvs : VRs μ vs (lo.toList ++ hi.toList ++ mx.toList)) (hm : mx.isSome = true → hi.isSome = true) :
    (Instr.sliceBounds isS len cap' lo hi mx).run P w = .ok (l, h, if mx.isSome then m else cap') w ∧ l ≤ h ∧ h ≤ m ∧ m ≤ cap ∧ (mx = none → m = cap) := by
  have fin : ∀ {li hh mm : Int}, (if 0 ≤ li ∧ li ≤ hh ∧ hh ≤ mm ∧ mm ≤ (cap : Int) then some (li.toNat, hh.toNat, mm.toNat) else none) = some (l, h, m) →
      0 ≤ li ∧ li ≤ hh ∧ hh ≤ mm ∧ mm ≤ (cap : Int) ∧ li.toNat = l ∧ hh.toNat = h ∧ mm.toNat = m := by
    intro li hh mm e
    split at e
    · rename_i c; simp at e; exact ⟨c.1, c.2.1, c.2.2.1, c.2.2.2, e.1, e.2.1, e.2.2⟩
    · cases e
  cases lo with
  | none =>
    cases hi with
    | none =>
      cases mx with
      | none =>
        have hvs0 : vs = [] := List.length_eq_zero_iff.1 (by simpa using hvs.1)
        subst hvs0
        simp only [bounds3, Option.isSome_none, Bool.false_eq_true, if_false] at hb
        obtain ⟨h1, h2, h3, h4, rfl, rfl, rfl⟩ := fin hb
        refine ⟨?_, by omega, by omega, by omega, by simp⟩
        simp [Instr.sliceBounds]
      | some v => simp at hm
    | some hv =>
      cases mx with
      | none =>
        obtain ⟨a, t, rfl⟩ : ∃ a t, vs = a :: t := by cases vs with | nil => have := hvs.1; simp at this | cons a t => exact ⟨a, t, rfl⟩
        simp only [Option.toList, List.nil_append, List.append_nil, List.cons_append] at hvs
        have ht := hvs.tail.1; simp at ht; subst ht
        simp only [bounds3, Option.isSome_none, Option.isSome_some, Bool.false_eq_true, if_false, if_true] at hb
        cases hia : intArg a with
        | none => rw [hia] at hb; cases hb
        | some n =>
          rw [hia] at hb
          obtain ⟨k, hk⟩ := intArg_spec hvs.head hia
          obtain ⟨h1, h2, h3, h4, rfl, rfl, rfl⟩ := fin hb
          refine ⟨?_, by omega, by omega, by omega, by simp⟩
          subst hk
          simp [Instr.sliceBounds, run_sliceBound w k n cap' _ (by omega) (by omega)]
      | some mv =>
        obtain ⟨a, b, t, rfl⟩ : ∃ a b t, vs = a :: b :: t := by
          cases vs with
          | nil => have := hvs.1; simp at this
          | cons a t => cases t with | nil => have := hvs.1; simp at this | cons b t => exact ⟨a, b, t, rfl⟩
        simp only [Option.toList, List.nil_append, List.append_nil, List.cons_append] at hvs
        have ht := hvs.tail.tail.1; simp at ht; subst ht
        simp only [bounds3, Option.isSome_none, Option.isSome_some, Bool.false_eq_true, if_false, if_true] at hb
        cases hia : intArg a with
        | none => rw [hia] at hb; cases hb
        | some n =>
          cases hib : intArg b with
          | none => rw [hia, hib] at hb; cases hb
          | some m' =>
            rw [hia, hib] at hb
            obtain ⟨k, hk⟩ := intArg_spec hvs.head hia
            obtain ⟨k2, hk2⟩ := intArg_spec hvs.tail.head hib
            obtain ⟨h1, h2, h3, h4, rfl, rfl, rfl⟩ := fin hb
            refine ⟨?_, by omega, by omega, by omega, by simp⟩
            subst hk; subst hk2
            simp [Instr.sliceBounds, run_sliceBound w k2 m' cap' _ (by omega) (by omega), run_sliceBound w k n m'.toNat _ (by omega) (by omega)]
  | some lv =>
    cases hi with
    | none =>
      cases mx with
      | none =>
        obtain ⟨a, t, rfl⟩ : ∃ a t, vs = a :: t := by cases vs with | nil => have := hvs.1; simp at this | cons a t => exact ⟨a, t, rfl⟩
        simp only [Option.toList, List.nil_append, List.append_nil, List.cons_append] at hvs
        have ht := hvs.tail.1; simp at ht; subst ht
        simp only [bounds3, Option.isSome_none, Option.isSome_some, Bool.false_eq_true, if_false, if_true] at hb
        cases hia : intArg a with
        | none => rw [hia] at hb; cases hb
        | some n =>
          rw [hia] at hb
          obtain ⟨k, hk⟩ := intArg_spec hvs.head hia
          obtain ⟨h1, h2, h3, h4, rfl, rfl, rfl⟩ := fin hb
          refine ⟨?_, by omega, by omega, by omega, by simp⟩
          subst hk
          simp [Instr.sliceBounds, run_sliceBound w k n len _ (by omega) (by omega)]
      | some v => simp at hm
    | some hv =>
      cases mx with
      | none =>
        obtain ⟨a, b, t, rfl⟩ : ∃ a b t, vs = a :: b :: t := by
          cases vs with
          | nil => have := hvs.1; simp at this
          | cons a t => cases t with | nil => have := hvs.1; simp at this | cons b t => exact ⟨a, b, t, rfl⟩
        simp only [Option.toList, List.nil_append, List.append_nil, List.cons_append] at hvs
        have ht := hvs.tail.tail.1; simp at ht; subst ht
        simp only [bounds3, Option.isSome_none, Option.isSome_some, Bool.false_eq_true, if_false, if_true] at hb
        cases hia : intArg a with
        | none => rw [hia] at hb; cases hb
        | some n =>
          cases hib : intArg b with
          | none => rw [hia, hib] at hb; cases hb
          | some m' =>
            rw [hia, hib] at hb
            obtain ⟨k, hk⟩ := intArg_spec hvs.head hia
            obtain ⟨k2, hk2⟩ := intArg_spec hvs.tail.head hib
            obtain ⟨h1, h2, h3, h4, rfl, rfl, rfl⟩ := fin hb
            refine ⟨?_, by omega, by omega, by omega, by simp⟩
            subst hk; subst hk2
            simp [Instr.sliceBounds, run_sliceBound w k2 m' cap' _ (by omega) (by omega), run_sliceBound w k n m'.toNat _ (by omega) (by omega)]
      | some mv =>
        obtain ⟨a, b, c, t, rfl⟩ : ∃ a b c t, vs = a :: b :: c :: t := by
          cases vs with
          | nil => have := hvs.1; simp at this
          | cons a t => cases t with
            | nil => have := hvs.1; simp at this
            | cons b t => cases t with | nil => have := hvs.1; simp at this | cons c t => exact ⟨a, b, c, t, rfl⟩
        simp only [Option.toList, List.nil_append, List.append_nil, List.cons_append] at hvs
        have ht := hvs.tail.tail.tail.1; simp at ht; subst ht
        simp only [bounds3, Option.isSome_none, Option.isSome_some, Bool.false_eq_true, if_false, if_true] at hb
        cases hia : intArg a with
        | none => rw [hia] at hb; cases hb
        | some n =>
          cases hib : intArg b with
          | none => rw [hia, hib] at hb; cases hb
          | some m' =>
            cases hic : intArg c with
            | none => rw [hia, hib, hic] at hb; cases hb
            | some m2 =>
              rw [hia, hib, hic] at hb
              obtain ⟨k, hk⟩ := intArg_spec hvs.head hia
              obtain ⟨k2, hk2⟩ := intArg_spec hvs.tail.head hib
              obtain ⟨k3, hk3⟩ := intArg_spec hvs.tail.tail.head hic
              obtain ⟨h1, h2, h3, h4, rfl, rfl, rfl⟩ := fin hb
              refine ⟨?_, by omega, by omega, by omega, by simp⟩
              subst hk; subst hk2; subst hk3
              simp [Instr.sliceBounds, run_sliceBound w k3 m2 cap' _ (by omega) (by omega), run_sliceBound w k2 m' m2.toNat _ (by omega) (by omega), run_sliceBound w k n m'.toNat _ (by omega) (by omega)]

theorem lhm_list {ρ : Operand → Value} {x : Operand} {lo hi mx : Option Operand} : ((x :: (lo.toList ++ hi.toList ++ mx.toList)).map ρ) = ρ x :: ((lo.map ρ).toList ++ (hi.map ρ).toList ++ (mx.map ρ).toList) := by
  cases lo <;> cases hi <;> cases mx <;> rfl
theorem does_slc {t e : TypeId} {x : Operand} {lo hi mx : Option Operand} {i : TypeInfo} {b g p n sz cl l h m : Nat} {ex : Bool} {vs : List AV} (hop : o.op = .slice t x lo hi mx) (ht : P.underlying t = some (.slice e)) (hi' : P.info? e = some i) (hsz : i.size = sz)
    (hm : mx.isSome = true → hi.isSome = true) (hx : VR μ (.sl b g p n sz cl ex) (ρ x)) (hvs : VRs μ vs ((lo.map ρ).toList ++ (hi.map ρ).toList ++ (mx.map ρ).toList))
    (hb : bounds3 n cl lo.isSome hi.isSome mx.isSome vs = some (l, h, m)) : Does P w ρ o μ (.sl b g (p + l * sz) (h - l) sz (m - l) (ex || mx.isSome)) := by
  cases hxv : ρ x <;> rw [hxv] at hx <;> cases hx
  rename_i c q hn hc he hh
  have hs : (sizeOf e).run P w = .ok sz w := by rw [run_sizeOf w hi']; simp [Program.cellsOf, hi', hsz]
  obtain ⟨hr, h1, h2, h3, h4⟩ := run_bounds (P := P) (w := w) (isS := true) (len := n) (lo := lo.map ρ) (hi := hi.map ρ) (mx := mx.map ρ) hc (by simpa using hb) hvs (by simpa using hm)
  simp only [Option.isSome_map] at hr
  generalize hmv : (if mx.isSome then m else c) = mm at hr
  have hml : m ≤ mm := by rw [← hmv]; split <;> omega
  refine ⟨.slice (if mm = l then some q else some (q.add (l * sz))) (h - l) (mm - l), ?_, ?_⟩
  · simp only [execOp, hop, hxv, Instr.sliceAt, Instr.slice, run_underlying ht, Sem.run_bind, Result.andThen_ok, hr, hs, Sem.run_pure, Option.map_some]
  · have hw : (if mm = l then some q else some (q.add (l * sz))) = some (if mm = l then q else q.add (l * sz)) := by split <;> rfl
    rw [hw]
    refine .sl (by omega) (by omega) ?_ ?_
    · intro hex
      rw [← hmv]
      cases hmx : mx.isSome with
      | true => simp
      | false =>
        rw [hmx] at hex
        have := he (by simpa using hex)
        have := h4 (by cases mx <;> simp_all)
        simp; omega
    · intro h0
      obtain ⟨a, ha, rfl, hx2⟩ := hh (by omega)
      refine ⟨a, ha, ?_, ?_⟩
      · rw [if_neg (by omega), addr_add _ _ rfl, Nat.add_assoc]
      · intro hex
        have h5 : mx.isSome = false := by cases h6 : mx.isSome <;> simp_all
        have h7 : mm = c := by rw [← hmv, h5]; simp
        have := hx2 (by simpa [h5] using hex)
        subst h7
        have h8 : l ≤ mm := by omega
        have : l * sz + (mm - l) * sz = mm * sz := by rw [← Nat.add_mul]; congr 1; omega
        omega
theorem VRs.sub {μ : Mu} {xs : List AV} {ys : List Value} (h1 : xs.length = ys.length) (h2 : ∀ (i : Nat) x y, xs[i]? = some x → ys[i]? = some y → VR μ x y) (a n : Nat) : VRs μ ((xs.drop a).take n) ((ys.drop a).take n) := VRs.take (VRs.drop ⟨h1, h2⟩ a) n
theorem im_sub {μ : Mu} {ys : List Value} {k off : Nat} (h : ∀ (i : Nat) y, ys[i]? = some y → μ.im k (off + i) = some y) (a n : Nat) : ∀ (i : Nat) y, ((ys.drop a).take n)[i]? = some y → μ.im k (off + a + i) = some y := by
  intro i y hy
  rw [List.getElem?_take] at hy
  split at hy
  · rw [List.getElem?_drop] at hy; rw [Nat.add_assoc]; exact h _ _ hy
  · cases hy
theorem does_slcV {t e : TypeId} {x : Operand} {lo hi mx : Option Operand} {i : TypeInfo} {n sz l h m : Nat} {xs : List AV} {vs : List AV} (hop : o.op = .slice t x lo hi mx) (ht : P.underlying t = some (.slice e)) (hi' : P.info? e = some i) (hsz : i.size = sz)
    (hm : mx.isSome = true → hi.isSome = true) (hx : VR μ (.vs n sz xs) (ρ x)) (hvs : VRs μ vs ((lo.map ρ).toList ++ (hi.map ρ).toList ++ (mx.map ρ).toList))
    (hb : bounds3 n n lo.isSome hi.isSome mx.isSome vs = some (l, h, m)) : Does P w ρ o μ (if mx.isSome = true ∧ m = l then .sl 0 0 0 0 sz 0 true else .vs (h - l) sz ((xs.drop (l * sz)).take ((h - l) * sz))) := by
  obtain ⟨kk, off, q, c, ys, hxv, hn, hl, hp, g2, g3, h9⟩ := hx.vs_inv
  have hs : (sizeOf e).run P w = .ok sz w := by rw [run_sizeOf w hi']; simp [Program.cellsOf, hi', hsz]
  obtain ⟨hr, h1, h2, h3, h4⟩ := run_bounds (P := P) (w := w) (isS := true) (len := n) (lo := lo.map ρ) (hi := hi.map ρ) (mx := mx.map ρ) hn (by simpa using hb) hvs (by simpa using hm)
  simp only [Option.isSome_map] at hr
  generalize hmv : (if mx.isSome then m else c) = mm at hr
  have hml : m ≤ mm := by rw [← hmv]; split <;> omega
  refine ⟨.slice (if mm = l then some q else some (q.add (l * sz))) (h - l) (mm - l), ?_, ?_⟩
  · simp only [execOp, hop, hxv, Instr.sliceAt, Instr.slice, run_underlying ht, Sem.run_bind, Result.andThen_ok, hr, hs, Sem.run_pure, Option.map_some]
  · have hw : (if mm = l then some q else some (q.add (l * sz))) = some (if mm = l then q else q.add (l * sz)) := by split <;> rfl
    rw [hw]
    split
    · rename_i hcc
      have hmm : mm = l := by rw [← hmv, if_pos hcc.1]; exact hcc.2
      have e1 : h - l = 0 := by omega
      have e2 : mm - l = 0 := by omega
      rw [e1, e2]
      exact .sl (Nat.le_refl _) (Nat.le_refl _) (fun _ => rfl) (fun h0 => by omega)
    · have k12 := VRs.sub g2.1 g2.2 (l * sz) ((h - l) * sz)
      have hle : l * sz + (h - l) * sz ≤ n * sz := by rw [← Nat.add_mul]; exact Nat.mul_le_mul_right _ (by omega)
      refine .vs_mk (k := kk) (off := off + l * sz) (by omega) ?_ ?_ k12 (im_sub g3 _ _) (closeds_sub h9 _ _)
      · simp; omega
      · intro h0
        simp at h0
        have hpos : 0 < xs.length := by omega
        have := hp hpos
        subst this
        have : 0 < h - l := by
          rcases Nat.eq_zero_or_pos (h - l) with e | e
          · rw [e] at h0; simp at h0
          · exact e
        rw [if_neg (by omega), addr_add _ _ rfl]
theorem does_slcNil {t e : TypeId} {x : Operand} {lo hi mx : Option Operand} {i : TypeInfo} {vs : List AV} (hop : o.op = .slice t x lo hi mx) (ht : P.underlying t = some (.slice e)) (hi' : P.info? e = some i)
    (hm : mx.isSome = true → hi.isSome = true) (hx : VR μ .nils (ρ x)) (hvs : VRs μ vs ((lo.map ρ).toList ++ (hi.map ρ).toList ++ (mx.map ρ).toList))
    (hb : bounds3 0 0 lo.isSome hi.isSome mx.isSome vs = some (0, 0, 0)) : Does P w ρ o μ .nils := by
  cases hxv : ρ x <;> rw [hxv] at hx <;> cases hx
  have hs : (sizeOf e).run P w = .ok i.size w := by rw [run_sizeOf w hi']; simp [Program.cellsOf, hi']
  obtain ⟨hr, _⟩ := run_bounds (P := P) (w := w) (isS := true) (len := 0) (lo := lo.map ρ) (hi := hi.map ρ) (mx := mx.map ρ) (Nat.le_refl 0) (by simpa using hb) hvs (by simpa using hm)
  simp only [ite_self] at hr
  refine ⟨.slice none 0 0, ?_, .nils⟩
  simp only [execOp, hop, hxv, Instr.sliceAt, Instr.slice, run_underlying ht, Sem.run_bind, Result.andThen_ok, hr, hs, Sem.run_pure]
  simp
theorem does_slcT {t : TypeId} {x : Operand} {lo hi : Option Operand} {s : ByteArray} {l h m : Nat} {vs : List AV} (hop : o.op = .slice t x lo hi none) (ht : P.underlying t = some .string)
    (hx : VR μ (.str s) (ρ x)) (hvs : VRs μ vs ((lo.map ρ).toList ++ (hi.map ρ).toList)) (hb : bounds3 s.size s.size lo.isSome hi.isSome false vs = some (l, h, m)) : Does P w ρ o μ (.str (s.extract l h)) := by
  cases hxv : ρ x <;> rw [hxv] at hx <;> cases hx
  obtain ⟨hr, _⟩ := run_bounds (P := P) (w := w) (isS := false) (len := s.size) (lo := lo.map ρ) (hi := hi.map ρ) (mx := none) (Nat.le_refl _) (by simpa using hb) (by simpa using hvs) (by simp)
  refine ⟨.string (s.extract l h), ?_, .str _⟩
  simp only [execOp, hop, hxv, Instr.sliceAt, Instr.slice, run_underlying ht, Sem.run_bind, Result.andThen_ok, Option.map_none, Option.isSome_none, Bool.false_eq_true, if_false, Sem.run_pure]
  simp only [Sem.run_bind, hr, Result.andThen_ok, Sem.run_pure]
theorem does_slcA {t e : TypeId} {x : Operand} {lo hi : Option Operand} {i : TypeInfo} {b g p len sz l h m : Nat} {vs : List AV} (hop : o.op = .slice t x lo hi none) (ht : P.underlying t = some (.array len e)) (hi' : P.info? e = some i) (hsz : i.size = sz)
    (hx : VR μ (.ptr b g p) (ρ x)) (hvs : VRs μ vs ((lo.map ρ).toList ++ (hi.map ρ).toList)) (hb : bounds3 len len lo.isSome hi.isSome false vs = some (l, h, m)) : Does P w ρ o μ (.sl b g (p + l * sz) (h - l) sz (m - l) true) := by
  cases hxv : ρ x <;> rw [hxv] at hx <;> cases hx
  rename_i a ha
  have hs : (sizeOf e).run P w = .ok sz w := by rw [run_sizeOf w hi']; simp [Program.cellsOf, hi', hsz]
  obtain ⟨hr, h1, h2, h3, h4⟩ := run_bounds (P := P) (w := w) (isS := false) (len := len) (lo := lo.map ρ) (hi := hi.map ρ) (mx := none) (Nat.le_refl _) (by simpa using hb) (by simpa using hvs) (by simp)
  have h4 := h4 rfl
  simp only [Option.isSome_none, Bool.false_eq_true, if_false] at hr
  refine ⟨.slice (some (if len = l then ⟨a.blk, a.off + p, none⟩ else (⟨a.blk, a.off + p, none⟩ : Addr).add (l * sz))) (h - l) (len - l), ?_, ?_⟩
  · simp only [execOp, hop, hxv, Instr.sliceAt, Instr.sureAddr, run_underlying ht, Sem.run_bind, Result.andThen_ok, Sem.run_pure, Option.map_none, hr, hs]
  · subst h4
    refine .sl (by omega) (by omega) (fun _ => rfl) ?_
    intro h0
    exact ⟨a, ha, by rw [if_neg (by omega), addr_add _ _ rfl, Nat.add_assoc], by simp⟩

/-! ### Loads -/
theorem does_load1 {B : Nat} {t : TypeId} {x : Operand} {b g p g' : Nat} {ro : Bool} {c : List AV} {v : AV} {a : At} (hop : o.op = .load t x) (hA : (isAgg t).run P w = .ok false w) (hx : VR μ (.ptr b g p) (ρ x))
    (hv : c[p]? = some v) (ha : μ b g = some a) (hob : obR B μ w a (.cells g' ro c)) : Does P w ρ o μ v := by
  cases hxv : ρ x <;> rw [hxv] at hx <;> cases hx
  rename_i a' ha'
  rw [ha] at ha'; cases ha'
  obtain ⟨u, hu, hr⟩ := hob.2.2.1 p v hv
  exact ⟨u, by simp [execOp, hop, hxv, Instr.loadAt, Instr.sureAddr, loadVar, hA, hu], hr⟩
theorem run_cells {B : Nat} {g : Nat} {ro : Bool} {c : List AV} {a : At} (hob : obR B μ w a (.cells g ro c)) (p n : Nat) (h : p + n ≤ c.length) :
    ∃ us : List Value, (loadCells ⟨a.blk, a.off + p, none⟩ n).run P w = .ok us.toArray w ∧ VRs μ ((c.drop p).take n) us := by
  have hf : ∀ i : Nat, i < n → ∃ u, w.cell? ⟨a.blk, a.off + p + i, none⟩ = some u ∧ ∀ v, c[p + i]? = some v → VR μ v u := by
    intro i hi
    obtain ⟨u, hu, hr⟩ := hob.2.2.1 (p + i) c[p + i] (List.getElem?_eq_getElem (by omega))
    exact ⟨u, by rw [Nat.add_assoc]; exact hu, fun v hv => by rw [List.getElem?_eq_getElem (by omega)] at hv; cases hv; exact hr⟩
  let f : Nat → Value := fun i => ((w.cell? ⟨a.blk, a.off + p + i, none⟩).getD (.tuple #[]))
  refine ⟨(List.range n).map f, ?_, by simp; omega, ?_⟩
  · have key := run_loadCells (P := P) (w := w) ⟨a.blk, a.off + p, none⟩ n f (fun j hj => by
      obtain ⟨u, hu, _⟩ := hf j hj
      rw [addr_add _ _ rfl]
      simp [f, hu])
    rw [key]
  · intro i x y hx hy
    rw [List.getElem?_take] at hx
    split at hx
    · rename_i hi
      rw [List.getElem?_drop] at hx
      simp [hi] at hy
      obtain ⟨u, hu, hr⟩ := hf i hi
      subst hy
      simp only [f, hu, Option.getD_some]
      exact hr x hx
    · cases hx
theorem does_loadN {B : Nat} {t : TypeId} {x : Operand} {b g p g' n : Nat} {ro : Bool} {c : List AV} {a : At} {i : TypeInfo} (hop : o.op = .load t x) (hA : (isAgg t).run P w = .ok true w) (hi : P.info? t = some i) (hn : i.size = n) (hx : VR μ (.ptr b g p) (ρ x))
    (hl : p + n ≤ c.length) (ha : μ b g = some a) (hob : obR B μ w a (.cells g' ro c)) : Does P w ρ o μ (.agg ((c.drop p).take n)) := by
  cases hxv : ρ x <;> rw [hxv] at hx <;> cases hx
  rename_i a' ha'
  rw [ha] at ha'; cases ha'
  obtain ⟨us, hus, hr⟩ := run_cells (P := P) hob p n hl
  have hs : (sizeOf t).run P w = .ok n w := by rw [run_sizeOf w hi]; simp [Program.cellsOf, hi, hn]
  exact ⟨.agg us.toArray, by simp [execOp, hop, hxv, Instr.loadAt, Instr.sureAddr, loadVar, hA, hs, hus], .agg' (by simpa using hr)⟩
theorem does_load1V {t : TypeId} {x : Operand} {p : Nat} {xs : List AV} {v : AV} (him : ∀ k o u, μ.im k o = some u → w.cell? ⟨k, o, none⟩ = some u) (hop : o.op = .load t x) (hA : (isAgg t).run P w = .ok false w) (hx : VR μ (.vp xs p) (ρ x))
    (hv : xs[p]? = some v) : Does P w ρ o μ v := by
  obtain ⟨k, off, ys, hxv, g1, g3, g4⟩ := hx.vp_inv
  obtain ⟨u, hu, hr⟩ := g1.get hv
  have hc := him _ _ _ (g3 p u hu)
  exact ⟨u, by simp [execOp, hop, hxv, Instr.loadAt, Instr.sureAddr, loadVar, hA, hc], hr⟩
theorem run_cellsV {k off : Nat} {ys : List Value} (him : ∀ k o u, μ.im k o = some u → w.cell? ⟨k, o, none⟩ = some u) (h3 : ∀ (i : Nat) y, ys[i]? = some y → μ.im k (off + i) = some y) (p n : Nat) (h : p + n ≤ ys.length) :
    (loadCells ⟨k, off + p, none⟩ n).run P w = .ok ((ys.drop p).take n).toArray w := by
  have key := run_loadCells (P := P) (w := w) ⟨k, off + p, none⟩ n (fun i => (ys.getD (p + i) (.tuple #[]))) (fun j hj => by
    rw [addr_add _ _ rfl]
    have hi : ys[p + j]? = some ys[p + j] := List.getElem?_eq_getElem (by omega)
    have := him _ _ _ (h3 (p + j) _ hi)
    rw [← Nat.add_assoc] at this
    rw [this]
    simp [List.getD_eq_getElem?_getD, hi])
  rw [key]
  congr 2
  apply List.ext_getElem?
  intro i
  rw [List.getElem?_take, List.getElem?_map]
  by_cases hi : i < n
  · rw [if_pos hi, List.getElem?_drop, List.getElem?_range hi]
    simp [List.getD_eq_getElem?_getD, List.getElem?_eq_getElem (show p + i < ys.length by omega)]
  · rw [if_neg hi, List.getElem?_eq_none (by simpa using hi)]; rfl
theorem does_loadNV {t : TypeId} {x : Operand} {p n : Nat} {xs : List AV} {i : TypeInfo} (him : ∀ k o u, μ.im k o = some u → w.cell? ⟨k, o, none⟩ = some u) (hop : o.op = .load t x) (hA : (isAgg t).run P w = .ok true w) (hi : P.info? t = some i) (hn : i.size = n) (hx : VR μ (.vp xs p) (ρ x))
    (hl : p + n ≤ xs.length) : Does P w ρ o μ (.agg ((xs.drop p).take n)) := by
  obtain ⟨k, off, ys, hxv, ⟨g1, g2⟩, g3, g4⟩ := hx.vp_inv
  have hs : (sizeOf t).run P w = .ok n w := by rw [run_sizeOf w hi]; simp [Program.cellsOf, hi, hn]
  have hus := run_cellsV (P := P) him g3 p n (by omega)
  exact ⟨.agg ((ys.drop p).take n).toArray, by simp [execOp, hop, hxv, Instr.loadAt, Instr.sureAddr, loadVar, hA, hs, hus], .agg' (by simpa using VRs.sub g1 g2 p n)⟩
end Go.Ai
/- The operations that write to no object do as the model's (part four): what is built and made. -/
namespace Go.Ai
set_option linter.unusedSectionVars false
variable [DrMode]
set_option linter.unusedVariables false
set_option linter.unusedSimpArgs false
variable {P : Program} {μ : Mu} {w : World} {ρ : Operand → Value} {o : Oper}

theorem fold_list (off : Nat) (vs : List Value) : ∀ (k : Nat) (cells : Array Value), off + k + vs.length ≤ cells.size →
    ((vs.zipIdx k).foldl (fun cs (p : Value × Nat) => cs.setIfInBounds (off + p.2) p.1) cells).toList = cells.toList.take (off + k) ++ vs ++ cells.toList.drop (off + k + vs.length) := by
  induction vs with
  | nil => intro k cells h; simp
  | cons v vs ih =>
    intro k cells h
    simp only [List.zipIdx_cons, List.foldl_cons, List.length_cons] at h ⊢
    rw [ih (k + 1) _ (by simp; omega)]
    have hlt : off + k < cells.toList.length := by simp; omega
    rw [Array.toList_setIfInBounds]
    apply List.ext_getElem?
    intro i
    simp only [List.getElem?_append, List.getElem?_take, List.getElem?_drop, List.getElem?_set, List.length_append, List.length_take, List.length_set, List.length_cons, List.getElem?_cons, Array.length_toList]
    by_cases h1 : i < off + k
    · simp [h1, show i < off + (k + 1) by omega, show min (off + (k + 1)) cells.size = off + (k + 1) by omega, show min (off + k) cells.size = off + k by omega, show ¬ off + k = i by omega, show i < off + (k + 1) + vs.length by omega, show i < off + k + (vs.length + 1) by omega]
    · by_cases h2 : i = off + k
      · subst h2
        simp [show min (off + (k + 1)) cells.size = off + (k + 1) by omega, show min (off + k) cells.size = off + k by omega, show off + k < off + (k + 1) by omega, show off + k < off + (k + 1) + vs.length by omega, show off + k < cells.size by omega]
      · by_cases h3 : i < off + k + (vs.length + 1)
        · simp [h1, show min (off + (k + 1)) cells.size = off + (k + 1) by omega, show min (off + k) cells.size = off + k by omega, show ¬ i < off + (k + 1) by omega, show i < off + (k + 1) + vs.length by omega, h3, show ¬ i - (off + k) = 0 by omega, show i - (off + k) - 1 = i - (off + (k + 1)) by omega]
        · simp [h1, show min (off + (k + 1)) cells.size = off + (k + 1) by omega, show min (off + k) cells.size = off + k by omega, show ¬ i < off + (k + 1) + vs.length by omega, h3, show ¬ off + k = off + (k + 1) + vs.length + (i - (off + (k + 1) + vs.length)) by omega,
            show off + k + (vs.length + 1) + (i - (off + k + (vs.length + 1))) = off + (k + 1) + vs.length + (i - (off + (k + 1) + vs.length)) by omega]
theorem fold_cells (off : Nat) (v : Value) (cells : Array Value) (h : off + v.cells.size ≤ cells.size) :
    (v.cells.zipIdx.foldl (fun cs (p : Value × Nat) => cs.setIfInBounds (off + p.2) p.1) cells).toList = cells.toList.take off ++ v.cells.toList ++ cells.toList.drop (off + v.cells.size) := by
  have := fold_list off v.cells.toList 0 cells (by simpa using h)
  rw [← Array.foldl_toList, Array.toList_zipIdx]
  simpa using this
theorem run_fill {place : Nat → Option (Nat × Nat)} : ∀ (parts : List (Nat × Value)) (ps : List (Nat × Nat)) (vs z c : List AV) (cells : Array Value),
    parts.map (fun p => place p.1) = ps.map some → VRs μ vs (parts.map (·.2)) → VRs μ z cells.toList → fillA ps vs z = some c → ∃ cells', Instr.fill place cells parts = some cells' ∧ VRs μ c cells'.toList := by
  intro parts
  induction parts with
  | nil =>
    intro ps vs z c cells hp hv hz hf
    have h1 : ps = [] := by cases ps <;> simp at hp; rfl
    have h2 : vs = [] := List.length_eq_zero_iff.1 (by simpa using hv.1)
    subst h1; subst h2
    simp [fillA] at hf; subst hf
    exact ⟨cells, rfl, hz⟩
  | cons p parts ih =>
    intro ps vs z c cells hp hv hz hf
    obtain ⟨q, ps, rfl⟩ : ∃ q t, ps = q :: t := by cases ps with | nil => simp at hp | cons q t => exact ⟨q, t, rfl⟩
    obtain ⟨v, vs, rfl⟩ : ∃ v t, vs = v :: t := by cases vs with | nil => have := hv.1; simp at this | cons v t => exact ⟨v, t, rfl⟩
    obtain ⟨off, n⟩ := q
    simp only [List.map_cons, List.cons.injEq] at hp
    simp only [List.map_cons] at hv
    simp only [fillA] at hf
    split at hf
    · rename_i hc
      obtain ⟨hc1, hc2, hc3⟩ := hc
      have hne : v ≠ .un := fun e => by subst e; simp [AV.part] at hc3
      have hcv := hv.head.cells hne
      have hn : p.2.cells.size = n := by rw [← hc1]; simpa using hcv.1.symm
      have hsz : off + p.2.cells.size ≤ cells.size := by rw [hn]; have := hz.1; simp at this; omega
      obtain ⟨cells', h1, h2⟩ := ih ps vs _ c (p.2.cells.zipIdx.foldl (fun cs (p : Value × Nat) => cs.setIfInBounds (off + p.2) p.1) cells) hp.2 hv.tail (by
        rw [fold_cells off p.2 cells hsz, hn]
        exact ((hz.take off).append hcv).append (hz.drop (off + n))) hf
      refine ⟨cells', ?_, h2⟩
      obtain ⟨i, u⟩ := p
      simp only [Instr.fill, hp.1]
      rw [if_neg (by simp only [Bool.or_eq_true, decide_eq_true_eq, not_or]; simp at hn hsz; simp; omega)]
      exact h1
    · cases hf
theorem zeroIs_spec {t : TypeId} {z : List AV} (h : zeroIs P t z = true) (μ : Mu) : ∃ i v, P.info? t = some i ∧ i.zero = some v ∧ (zeroValue t).run P w = .ok v w ∧ VRs μ z v.cells.toList := by
  unfold zeroIs at h
  cases hi : P.info? t with
  | none => rw [hi] at h; cases h
  | some i =>
    rw [hi] at h
    cases hz : i.zero with
    | none => simp [hz] at h
    | some v =>
      simp only [hz] at h
      exact ⟨i, v, rfl, hz, by simp [zeroValue, typeInfo, hi, hz], sameVs_spec μ _ _ h⟩

theorem parts_map {ρ : Operand → Value} (parts : Array (Nat × Operand)) : (parts.map fun (i, x) => (i, ρ x)).toList = parts.toList.map fun p => (p.1, ρ p.2) := by
  simp
theorem does_build {t : TypeId} {parts : Array (Nat × Operand)} {z : List AV} {ps : List (Nat × Nat)} {vs c : List AV} (hop : o.op = .build t parts) (hz : zeroIs P t z = true) (hp : placesOf P t parts.toList ps = true)
    (hv : VRs μ vs ((parts.toList.map (·.2)).map ρ)) (hf : fillA ps vs z = some c) : Does P w ρ o μ (.agg c) := by
  obtain ⟨i, zv, hi, hzv, hzr, hzs⟩ := zeroIs_spec (w := w) hz μ
  have hvp : VRs μ vs ((parts.toList.map fun p => (p.1, ρ p.2)).map (·.2)) := by rw [List.map_map] at hv ⊢; exact hv
  unfold placesOf at hp
  split at hp
  · rename_i fs hfs
    simp only [Bool.and_eq_true, beq_iff_eq] at hp
    obtain ⟨hall, hp⟩ := hp
    have hpl : ∀ f ∈ fs.toList, (sizeOf f.type).run P w = .ok (P.cellsOf f.type) w := by
      intro f hf
      have := (Array.all_eq_true_iff_forall_mem.1 hall) f (by simpa using hf)
      obtain ⟨i, hi⟩ := Option.isSome_iff_exists.1 this
      exact run_sizeOf w hi
    have hmap : (fs.mapM fun f => (do pure (f.offset, ← sizeOf f.type) : Sem (Nat × Nat))).run P w = .ok (fs.map fun f => (f.offset, P.cellsOf f.type)) w := by
      have key : ∀ l : List Field, (∀ f ∈ l, (sizeOf f.type).run P w = .ok (P.cellsOf f.type) w) → (l.mapM fun f => (do pure (f.offset, ← sizeOf f.type) : Sem (Nat × Nat))).run P w = .ok (l.map fun f => (f.offset, P.cellsOf f.type)) w := by
        intro l hl
        induction l with
        | nil => simp
        | cons f l ih =>
          simp only [List.mapM_cons, Sem.run_bind, hl f (by simp), Result.andThen_ok, Sem.run_pure, ih (fun g hg => hl g (by simp [hg])), List.map_cons]
      rw [Array.mapM_eq_mapM_toList, Sem.run_map, key _ hpl]
      simp only [Result.andThen_ok]
      congr 1
      apply Array.ext'
      rw [Array.toList_map]
    obtain ⟨cells', h1, h2⟩ := run_fill (place := fun i => (fs.map fun f => (f.offset, P.cellsOf f.type))[i]?) (parts.toList.map fun p => (p.1, ρ p.2)) ps vs z c zv.cells (by
      rw [List.map_map]
      rw [← hp]
      apply List.map_congr_left
      intro p _
      simp) hvp hzs hf
    refine ⟨.agg cells', ?_, .agg' h2⟩
    simp only [execOp, hop, Instr.build, Sem.run_bind, hzr, Result.andThen_ok, run_underlying hfs, hmap, Sem.run_pure, parts_map, h1]
  · rename_i n e hae
    simp only [Bool.and_eq_true, beq_iff_eq] at hp
    obtain ⟨hall, hp⟩ := hp
    obtain ⟨j, hj⟩ := Option.isSome_iff_exists.1 hall
    obtain ⟨cells', h1, h2⟩ := run_fill (place := fun i => some (i * P.cellsOf e, P.cellsOf e)) (parts.toList.map fun p => (p.1, ρ p.2)) ps vs z c zv.cells (by
      rw [List.map_map, ← hp, List.map_map]
      rfl) hvp hzs hf
    refine ⟨.agg cells', ?_, .agg' h2⟩
    simp only [execOp, hop, Instr.build, Sem.run_bind, hzr, Result.andThen_ok, run_underlying hae, run_sizeOf w hj, Sem.run_pure, parts_map, h1]
  · cases hp

/-! ### New objects -/
/-- A new object of cells: the operation makes it, and answers its name. -/
def Makes (B : Nat) (P : Program) (w : World) (ρ : Operand → Value) (o : Oper) (μ : Mu) (ob : Ob) (mk : Nat → AV) : Prop :=
  ∃ ob' u ext, (execOp ρ o).run P w = .ok (.value u) (w.alloc ob') ∧ ob.gen = 0 ∧ ob ≠ .dead ∧
    ∀ (ν : Mu) (b : Nat), μ.le ν → ν b 0 = some ⟨w.heap.size, 0, ext⟩ → obR B ν (w.alloc ob') ⟨w.heap.size, 0, ext⟩ ob ∧ VR ν (mk b) u
theorem makes_cells {B : Nat} {cells : Array Value} {c : List AV} {t : TypeId} {u : Value} {mk : Nat → AV} (hB : B ≤ w.heap.size) (hr : (execOp ρ o).run P w = .ok (.value u) (w.alloc (.cells cells t)))
    (hc : VRs μ c cells.toList) (hmk : ∀ (ν : Mu) (b : Nat), μ.le ν → ν b 0 = some ⟨w.heap.size, 0, cells.size⟩ → VR ν (mk b) u) : Makes B P w ρ o μ (.cells 0 false c) mk := by
  refine ⟨_, u, cells.size, hr, rfl, by simp, fun ν b hle hb => ⟨⟨by simp, by have := hc.1; simp at this; simp; omega, ?_, fun h => (by cases h), ?_⟩, hmk ν b hle hb⟩⟩
  · intro i v hv
    obtain ⟨y, hy, hvr⟩ := hc.get hv
    refine ⟨y, ?_, hvr.mono hle⟩
    simp only [Nat.zero_add, World.cell?_alloc_new]
    simpa using hy
  · intro _
    refine ⟨hB, fun i hi => ⟨⟨cells[i], ?_⟩, ?_⟩⟩
    · simp only [Nat.zero_add, World.cell?_alloc_new]; exact Array.getElem?_eq_getElem hi
    · simp only [Nat.zero_add, World.frozen?_alloc_new]
theorem makes_alloc {B : Nat} {t : TypeId} {z : List AV} (hB : B ≤ w.heap.size) (hop : o.op = .alloc t) (hz : zeroIs P t z = true) : Makes B P w ρ o μ (.cells 0 false z) (fun b => .ptr b 0 0) := by
  obtain ⟨i, zv, hi, hzv, hzr, hzs⟩ := zeroIs_spec (w := w) hz μ
  refine makes_cells (u := .pointer (some ⟨w.heap.size, 0, none⟩)) (cells := zv.cells) (t := t) hB ?_ hzs fun ν b hle hb => .ptr hb
  simp [execOp, hop, Instr.alloc, hzr, newVar, newRow]
theorem makes_box {B : Nat} {t : TypeId} {x : Operand} {v : AV} (hB : B ≤ w.heap.size) (hop : o.op = .box t x) (hx : VR μ v (ρ x)) (hone : v.cells.all (·.one) = true) : Makes B P w ρ o μ (.cells 0 false v.cells) (fun b => .ptr b 0 0) := by
  have hne : v ≠ .un := fun e => by subst e; simp [AV.cells, AV.one] at hone
  refine makes_cells (u := .pointer (some ⟨w.heap.size, 0, none⟩)) (cells := (ρ x).cells) (t := t) hB ?_ (hx.cells hne) fun ν b hle hb => .ptr hb
  simp [execOp, hop, Instr.box, newVar, newRow]
theorem repA_get (z : List AV) (hz : 0 < z.length) : ∀ (n i : Nat), (repA z n)[i]? = if i < n * z.length then z[i % z.length]? else none
  | 0, i => by simp [repA]
  | n + 1, i => by
    rw [repA, List.getElem?_append, repA_get z hz n]
    by_cases h : i < z.length
    · rw [if_pos h, if_pos (by rw [Nat.succ_mul]; omega), Nat.mod_eq_of_lt h]
    · rw [if_neg h]
      have e : (i - z.length) % z.length = i % z.length := by rw [← Nat.mod_eq_sub_mod (by omega)]
      rw [e, Nat.succ_mul]
      by_cases h2 : i < n * z.length + z.length
      · rw [if_pos (by omega), if_pos h2]
      · rw [if_neg (by omega), if_neg h2]
theorem repA_len (z : List AV) : ∀ n, (repA z n).length = n * z.length
  | 0 => by simp [repA]
  | n + 1 => by rw [repA, List.length_append, repA_len z n, Nat.succ_mul]; omega
theorem rep_zero {z : List AV} {zv : Array Value} (h : VRs μ z zv.toList) (hz : 0 < z.length) (n : Nat) : VRs μ (repA z n) ((Array.range (n * z.length)).map (fun i => zv[i % zv.size]!)).toList := by
  have hl : zv.size = z.length := by have := h.1; simp at this; omega
  refine ⟨by simp [repA_len], fun i x y hx hy => ?_⟩
  rw [repA_get z hz] at hx
  split at hx
  · rename_i hi
    simp [hi] at hy
    obtain ⟨y', h1, h2⟩ := h.get hx
    rw [hl] at hy
    have : zv[i % z.length]! = y' := by
      have hlt : i % z.length < zv.size := by rw [hl]; exact Nat.mod_lt _ hz
      rw [getElem!_pos zv _ hlt]
      simpa [hlt] using h1
    rw [← hy, this]; exact h2
  · cases hx
theorem makes_bsl {B : Nat} {t e : TypeId} {n sz : Nat} {parts : Array (Nat × Operand)} {z vs c : List AV} {ps : List (Nat × Nat)} {i : TypeInfo} (hB : B ≤ w.heap.size) (hop : o.op = .buildSlice t n parts) (ht : P.underlying t = some (.slice e)) (hz : zeroIs P e z = true)
    (hi : P.info? e = some i) (hs : i.size = sz) (hzl : z.length = sz) (h0 : 0 < sz) (hb : n * sz ≤ 16777216) (hps : (parts.toList.map fun p => (p.1 * sz, sz)) = ps) (hv : VRs μ vs ((parts.toList.map (·.2)).map ρ)) (hf : fillA ps vs (repA z n) = some c) :
    Makes B P w ρ o μ (.cells 0 false c) (fun b => .sl b 0 0 n sz n true) := by
  obtain ⟨i', zv, hi', hzv, hzr, hzs⟩ := zeroIs_spec (w := w) hz μ
  have hsz : (sizeOf e).run P w = .ok sz w := by rw [run_sizeOf w hi]; simp [Program.cellsOf, hi, hs]
  have hvp : VRs μ vs ((parts.toList.map fun p => (p.1, ρ p.2)).map (·.2)) := by rw [List.map_map] at hv ⊢; exact hv
  have hrep := rep_zero hzs (by omega) n
  rw [hzl] at hrep
  obtain ⟨cells', h1, h2⟩ := run_fill (place := fun i => some (i * sz, sz)) (parts.toList.map fun p => (p.1, ρ p.2)) ps vs (repA z n) c ((Array.range (n * sz)).map (fun i => zv.cells[i % zv.cells.size]!)) (by
      rw [List.map_map, ← hps, List.map_map]
      rfl) hvp hrep hf
  refine makes_cells (u := .slice (some ⟨w.heap.size, 0, none⟩) n n) (cells := cells') (t := e) hB ?_ h2 ?_
  · by_cases hn : n * sz = 0
    · have hn0 : n = 0 := by rcases Nat.mul_eq_zero.1 hn with h | h <;> omega
      subst hn0
      have hmap0 : ∀ f : Nat → Value, (Array.range (0 * sz)).map f = #[] := fun f => by simp
      rw [hmap0] at h1
      simp only [execOp, hop, Instr.buildSlice, run_underlying ht, Sem.run_bind, Result.andThen_ok, hsz, if_neg (show ¬ 0 * sz > 2 ^ 24 by omega), if_pos (show 0 * sz = 0 by omega), Sem.run_pure, parts_map, hmap0, h1, newRow, run_newObj, World.alloc_eq]
    · have hb' : ¬ n * sz > 2 ^ 24 := by omega
      simp only [execOp, hop, Instr.buildSlice, run_underlying ht, Sem.run_bind, Result.andThen_ok, hsz, if_neg hb', if_neg hn, hzr, Sem.run_pure, parts_map, h1, newRow, run_newObj, World.alloc_eq]
  · intro ν b hle hb2
    refine .sl (Nat.le_refl _) (Nat.le_refl _) (fun _ => rfl) fun _ => ⟨_, hb2, rfl, by simp⟩
theorem makes_mksl {B : Nat} {t e : TypeId} {l k : Int} {sz bytes : Nat} {x y : Operand} {z : List AV} {i : TypeInfo} {k1 k2 : IntKind} (hB : B ≤ w.heap.size) (hop : o.op = .makeSlice t x y) (ht : P.underlying t = some (.slice e)) (hz : zeroIs P e z = true)
    (hi : P.info? e = some i) (hs : i.size = sz) (hby : i.bytes = bytes) (hzl : z.length = sz) (h0 : 0 < sz) (hx : VR μ (.int k1 l) (ρ x)) (hy : VR μ (.int k2 k) (ρ y)) (hl0 : 0 ≤ l) (hlk : l ≤ k) (hk : k ≤ 4294967296) (hkb : k * (bytes : Int) ≤ 140737488355328) :
    Makes B P w ρ o μ (.cells 0 false (repA z k.toNat)) (fun b => .sl b 0 0 l.toNat sz k.toNat true) := by
  obtain ⟨i', zv, hi', hzv, hzr, hzs⟩ := zeroIs_spec (w := w) hz μ
  have hsz : (sizeOf e).run P w = .ok sz w := by rw [run_sizeOf w hi]; simp [Program.cellsOf, hi, hs]
  have hti : (typeInfo e).run P w = .ok i w := run_typeInfo w hi
  cases hxv : ρ x <;> rw [hxv] at hx <;> cases hx
  cases hyv : ρ y <;> rw [hyv] at hy <;> cases hy
  have hrep := rep_zero hzs (by omega) k.toNat
  rw [hzl] at hrep
  refine makes_cells (u := .slice (some ⟨w.heap.size, 0, none⟩) l.toNat k.toNat) (cells := (Array.range (k.toNat * sz)).map (fun i => zv.cells[i % zv.cells.size]!)) (t := e) hB ?_ hrep ?_
  · have wl : IntKind.i64.wrap l = l := by simp [IntKind.wrap, IntKind.bits, IntKind.signed]; omega
    have wk : IntKind.i64.wrap k = k := by simp [IntKind.wrap, IntKind.bits, IntKind.signed]; omega
    have hbk : (bytes : Int) * k ≤ 140737488355328 := by rw [Int.mul_comm]; exact hkb
    have hnt : ¬ ((k < 0 || (bytes : Int) * k > 2 ^ 48) = true ∨ l < 0) := by
      simp only [Bool.or_eq_true, decide_eq_true_eq]; omega
    by_cases hn : k.toNat * sz = 0
    · have hk0 : k.toNat = 0 := by rcases Nat.mul_eq_zero.1 hn with h | h <;> omega
      have e0 : ((Array.range (k.toNat * sz)).map (fun i => zv.cells[i % zv.cells.size]!)) = #[] := by rw [hn]; simp
      rw [e0]
      simp only [execOp, hop, hxv, hyv, Instr.makeSlice, run_underlying ht, Sem.run_bind, Result.andThen_ok, asInt, asIntOf, Sem.run_pure, hti, hby, wl, wk]
      rw [if_neg (by simp only [Bool.or_eq_true, decide_eq_true_eq]; omega)]
      have hmap0 : ∀ f : Nat → Value, (Array.range 0).map f = #[] := fun f => by simp
      simp [hsz, hk0, newRow, hmap0]
    · simp only [execOp, hop, hxv, hyv, Instr.makeSlice, run_underlying ht, Sem.run_bind, Result.andThen_ok, asInt, asIntOf, Sem.run_pure, hti, hby, wl, wk]
      rw [if_neg (by simp only [Bool.or_eq_true, decide_eq_true_eq]; omega)]
      simp only [Sem.run_bind, run_askRoom, Result.andThen_ok, hsz, if_neg hn, hzr, Sem.run_pure, newRow, run_newObj, World.alloc_eq]
  · intro ν b hle hb2
    refine .sl (by omega) (Nat.le_refl _) (fun _ => rfl) fun _ => ⟨_, hb2, rfl, by simp⟩
end Go.Ai
