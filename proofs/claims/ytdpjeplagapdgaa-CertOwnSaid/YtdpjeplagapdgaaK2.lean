/- A part of what the law leans on: the abstract machine, the contracts, the rows. -/
import Derived.Test.YtdpjeplagapdgaaK1
import Derived.Laws.StructEq
/- Every operation that writes to no object does as the model's. -/
namespace Go.Ai
set_option linter.unusedSectionVars false
variable [DrMode]
set_option linter.unusedVariables false
set_option linter.unusedSimpArgs false
variable {P : Program} {μ : Mu} {w : World} {ρ : Operand → Value} {o : Oper}

theorem eqSc_run {t : TypeId} {x y : AV} {u v : Value} {b : Bool} {q : Nat} (ht : scalarKind (P.underlying t) = some q) (hx : VR μ x u) (hy : VR μ y v) (h : eqSc q x y = some b) (d : Nat) :
    (Op.equalIn (d + 1) t u v).run P w = .ok b w := by
  cases hd : P.underlying t with
  | none => rw [hd] at ht; simp [scalarKind] at ht
  | some dd =>
    rw [hd] at ht
    unfold eqSc at h
    split at h
    · cases hx; cases hy
      split at h
      · rename_i hk; subst hk; cases h
        cases dd <;> simp [scalarKind] at ht
        simp [Op.equalIn, run_underlying hd]
      · cases h
    · cases hx; cases hy; cases h
      cases dd <;> simp [scalarKind] at ht
      simp [Op.equalIn, run_underlying hd]
    · cases hx; cases hy; cases h
      cases dd <;> simp [scalarKind] at ht
      simp [Op.equalIn, run_underlying hd]
    · cases h
def eqRound (us vs : List Value) (d : Nat) (f : Field) : Sem (ForInStep (Option Bool × Unit)) :=
  if f.name ≠ "_" then do
    let __do_lift ← part f.type us.toArray f.offset
    let __do_lift_1 ← part f.type vs.toArray f.offset
    let __do_lift ← Op.equalIn (d + 1) f.type __do_lift __do_lift_1
    if (!__do_lift) = true then pure (ForInStep.done (some false, ())) else pure (ForInStep.yield (none, ()))
  else pure (ForInStep.yield (none, ()))
theorem eqScs_run : ∀ (fs : List Field) (qs : List Nat) (k : Nat) (xs ys : List AV) (us vs : List Value) (b : Bool), flatFields P fs qs k = true → VRs μ xs (us.drop k) → VRs μ ys (vs.drop k) → eqScs qs xs ys = some b → ∀ d,
    (forIn fs ((none, ()) : Option Bool × Unit) fun f _ => eqRound us vs d f).run P w = .ok ((if b then none else some false), ()) w := by
  intro fs
  induction fs with
  | nil =>
    intro qs k xs ys us vs b hf hx hy h d
    cases qs with
    | cons q qs => simp [flatFields] at hf
    | nil => cases xs <;> cases ys <;> simp [eqScs] at h; subst h; simp
  | cons f fs ih =>
    intro qs k xs ys us vs b hf hx hy h d
    obtain ⟨q, qs, rfl⟩ : ∃ a t, qs = a :: t := by cases qs with | nil => simp [flatFields] at hf | cons a t => exact ⟨a, t, rfl⟩
    obtain ⟨x, xs, rfl⟩ : ∃ a t, xs = a :: t := by cases xs with | nil => simp [eqScs] at h | cons a t => exact ⟨a, t, rfl⟩
    obtain ⟨y, ys, rfl⟩ : ∃ a t, ys = a :: t := by cases ys with | nil => simp [eqScs] at h | cons a t => exact ⟨a, t, rfl⟩
    simp only [flatFields, Bool.and_eq_true, beq_iff_eq, bne_iff_ne] at hf
    obtain ⟨⟨⟨hoff, hname⟩, hsc⟩, hrest⟩ := hf
    obtain ⟨u, t1, e1, hu, ht1⟩ := hx.cases_cons
    obtain ⟨v, t2, e2, hv, ht2⟩ := hy.cases_cons
    have hu? : us[k]? = some u := by have := congrArg (·[0]?) e1; simpa using this
    have hv? : vs[k]? = some v := by have := congrArg (·[0]?) e2; simpa using this
    have hd1 : t1 = us.drop (k + 1) := by have := congrArg List.tail e1; simpa using this.symm
    have hd2 : t2 = vs.drop (k + 1) := by have := congrArg List.tail e2; simpa using this.symm
    rw [hd1] at ht1
    rw [hd2] at ht2
    have hA : (isAgg f.type).run P w = .ok false w := by
      cases hd : P.underlying f.type with
      | none => rw [hd] at hsc; simp [scalarKind] at hsc
      | some dd => rw [hd] at hsc; exact run_isAgg_no hd (fun fs e => by subst e; simp [scalarKind] at hsc) (fun n e h => by subst h; simp [scalarKind] at hsc)
    have p1 : (part f.type us.toArray f.offset).run P w = .ok u w := run_part_one hA (by rw [hoff]; simpa using hu?)
    have p2 : (part f.type vs.toArray f.offset).run P w = .ok v w := run_part_one hA (by rw [hoff]; simpa using hv?)
    simp only [eqScs] at h
    cases hb : eqSc q x y with
    | none => rw [hb] at h; cases h
    | some c =>
      rw [hb] at h
      have he := eqSc_run (w := w) hsc hu hv hb d
      have hround : (eqRound us vs d f).run P w = .ok (if c then ForInStep.yield (none, ()) else ForInStep.done (some false, ())) w := by
        unfold eqRound
        rw [if_pos hname]
        simp only [Sem.run_bind, p1, p2, he, Result.andThen_ok]
        cases c <;> simp
      rw [List.forIn_cons]
      simp only [Sem.run_bind, hround, Result.andThen_ok]
      cases c with
      | false => simp at h; subst h; simp
      | true => exact ih qs (k + 1) xs ys us vs b hrest ht1 ht2 h d
theorem run_equal_struct {t : TypeId} {fs : Array Field} {xs ys : List AV} {us vs : List Value} {qs : List Nat} {b : Bool} (ht : P.underlying t = some (.struct fs)) (hst : P.stoodInHeld t = false) (hf : flatFields P fs.toList qs 0 = true)
    (hx : VRs μ xs us) (hy : VRs μ ys vs) (h : eqScs qs xs ys = some b) : (Op.equal t (.agg us.toArray) (.agg vs.toArray)).run P w = .ok b w := by
  have key := eqScs_run (w := w) fs.toList qs 0 xs ys us vs b hf (by simpa using hx) (by simpa using hy) h
  have k2 : ∀ d', (forIn fs.toList ((none, ()) : Option Bool × Unit) fun (f : Field) __s =>
            if f.name ≠ "_" then do
              let __do_lift ← part f.type us.toArray f.offset
              let __do_lift_1 ← part f.type vs.toArray f.offset
              let __do_lift ← Op.equalIn d' f.type __do_lift __do_lift_1
              if (!__do_lift) = true then pure (ForInStep.done (some false, ())) else pure (ForInStep.yield (none, ()))
            else pure (ForInStep.yield (none, ()))).run P w = .ok ((if b then none else some false), ()) w → (Op.equalIn (d' + 1) t (.agg us.toArray) (.agg vs.toArray)).run P w = .ok b w := by
    intro d' key
    simp only [Op.equalIn, Sem.run_bind, run_underlying ht, Result.andThen_ok, run_program, hst, Bool.false_eq_true, if_false]
    rw [← Array.forIn_toList, key]
    cases b <;> simp
  exact k2 9999 (key 9998)
theorem does_eqS {op : BinOp} {neg : Bool} {t yt : TypeId} {x y : Operand} {fs : Array Field} {xs ys : List AV} {qs : List Nat} {b : Bool} (hop : o.op = .binOp op t x y yt) (hb : op = if neg then .neq else .eql) (ht : P.underlying t = some (.struct fs)) (hst : P.stoodInHeld t = false)
    (hg : P.eqGuardType P.depth t = false) (hf : flatFields P fs.toList qs 0 = true) (hx : VR μ (.agg xs) (ρ x)) (hy : VR μ (.agg ys) (ρ y)) (h : eqScs qs xs ys = some b) : Does P w ρ o μ (.bool (b != neg)) := by
  obtain ⟨us, hu, hu2⟩ := aggOf hx
  obtain ⟨vs, hv, hv2⟩ := aggOf hy
  refine does_eq hop hb ?_ ?_ ?_
  · rw [hu, hv]; exact run_eqGuard_agg w op t x y _ _ hg
  · intro op h; rw [hu, hv]; rcases h with rfl | rfl <;> rfl
  · rw [hu, hv]; exact run_equal_struct ht hst hf hu2 hv2 h

def NSim (B : Nat) (P : Program) (w : World) (ρ : Operand → Value) (o : Oper) (μ : Mu) : NRes → Prop
  | .val v => Does P w ρ o μ v
  | .new ob mk => Makes B P w ρ o μ ob mk
theorem VRs.one {x : AV} {us : List Value} (h : VRs μ [x] us) : ∃ u, us = [u] ∧ VR μ x u := by
  obtain ⟨u, t, e, h1, h2⟩ := h.cases_cons
  rw [h2.cases_nil] at e
  exact ⟨u, e, h1⟩
theorem aggDesc {t : TypeId} (h : (match P.underlying t with | some (.struct _) | some (.array ..) => true | _ => false) = true) : (isAgg t).run P w = .ok true w := by
  split at h
  · rename_i fs e; exact run_isAgg_yes ⟨_, e, .inl ⟨_, rfl⟩⟩
  · rename_i n e' e; exact run_isAgg_yes ⟨_, e, .inr ⟨_, _, rfl⟩⟩
  · cases h
theorem notAggDesc {t : TypeId} (h : (match P.underlying t with | some (.struct _) | some (.array ..) | none => false | _ => true) = true) : (isAgg t).run P w = .ok false w := by
  split at h
  · cases h
  · cases h
  · cases h
  · rename_i h1 h2 h3
    cases hd : P.underlying t with
    | none => exact absurd hd h3
    | some d => exact run_isAgg_no hd (fun fs e => h1 fs (by rw [hd, e])) (fun n e' e => h2 n e' (by rw [hd, e]))

set_option maxHeartbeats 1000000 in
/-- EVERY OPERATION THAT WRITES TO NO OBJECT DOES AS THE MODEL'S. -/
theorem nsim {B : Nat} {no : NOp} {vs : List AV} {rd : Nat → Option Ob} {r : NRes} (hB : B ≤ w.heap.size) (hchk : chkN P no o.op = true) (hv : VRs μ vs ((nargs o.op).map ρ)) (hs : nstep no vs rd = some r)
    (hrd : ∀ b ob, ntouch no vs = some b → rd b = some ob → ob ≠ .dead → ∃ a, μ b ob.gen = some a ∧ obR B μ w a ob) (him : ∀ k o u, μ.im k o = some u → w.cell? ⟨k, o, none⟩ = some u) : NSim B P w ρ o μ r := by
  cases hop : o.op <;> rw [hop] at hchk hv <;> cases no <;> simp only [chkN] at hchk <;> try (cases hchk; done)
  all_goals simp only [nargs, List.map_cons, List.map_nil] at hv
  all_goals simp only [nstep] at hs
  case move.mv x =>
    split at hs <;> cases hs
    exact does_mv (.inl hop) hv.head
  case assign.mv x =>
    split at hs <;> cases hs
    exact does_mv (.inr hop) hv.head
  case pick.pick c a b =>
    split at hs <;> cases hs
    exact does_pick hop hv.head hv.tail.head hv.tail.tail.head
  case alloc.alloc t z =>
    split at hs <;> cases hs
    exact makes_alloc hB hop hchk
  case box.box t x =>
    split at hs
    · split at hs <;> cases hs
      rename_i h1
      exact makes_box hB hop hv.head h1
    · cases hs
  case build.build t parts z ps =>
    simp only [Bool.and_eq_true] at hchk
    cases hf : fillA ps vs z with
    | none => rw [hf] at hs; cases hs
    | some c => rw [hf] at hs; cases hs; exact does_build hop hchk.1 hchk.2 hv hf
  case buildSlice.bsl t len parts z n sz ps =>
    simp only [Bool.and_eq_true, beq_iff_eq, decide_eq_true_eq] at hchk
    obtain ⟨⟨⟨⟨rfl, h1⟩, h2⟩, h3⟩, h4⟩ := hchk
    split at h4
    · rename_i e he
      simp only [Bool.and_eq_true, beq_iff_eq] at h4
      obtain ⟨⟨hz, hi⟩, hps⟩ := h4
      split at hi
      · rename_i i hi2
        cases hf : fillA ps vs (repA z n) with
        | none => rw [hf] at hs; cases hs
        | some c => rw [hf] at hs; cases hs; exact makes_bsl hB hop he hz hi2 (by simpa using hi) h2 h3 h1 hps hv hf
      · cases hi
    · cases h4
  case load.load1 t x =>
    split at hs
    · split at hs
      · rename_i hb
        split at hs
        · rename_i hg
          subst hg
          obtain ⟨a, ha, hob⟩ := hrd _ _ rfl hb (by simp)
          obtain ⟨v, hc, rfl⟩ := Option.map_eq_some_iff.1 hs
          exact does_load1 hop (notAggDesc (P := P) (w := w) hchk) hv.head hc ha hob
        · cases hs
      · cases hs
    · obtain ⟨v, hc, rfl⟩ := Option.map_eq_some_iff.1 hs
      exact does_load1V him hop (notAggDesc (P := P) (w := w) hchk) hv.head hc
    · cases hs
  case load.loadN t x n =>
    simp only [Bool.and_eq_true] at hchk
    obtain ⟨hi, hA⟩ := hchk
    split at hi
    · rename_i i hi2
      split at hs
      · split at hs
        · rename_i hb
          split at hs
          · rename_i hg
            obtain ⟨rfl, hl⟩ := hg
            cases hs
            obtain ⟨a, ha, hob⟩ := hrd _ _ rfl hb (by simp)
            exact does_loadN hop (aggDesc (P := P) (w := w) hA) hi2 (by simpa using hi) hv.head hl ha hob
          · cases hs
        · cases hs
      · split at hs <;> cases hs
        rename_i hl
        exact does_loadNV him hop (aggDesc (P := P) (w := w) hA) hi2 (by simpa using hi) hv.head hl
      · cases hs
    · cases hi
  case nilCheck.nilc x =>
    split at hs <;> cases hs
    · exact does_nilc hop (.inl ⟨_, _, _, rfl⟩) hv.head
    · exact does_nilc hop (.inr (.inr (.inr ⟨_, _, rfl⟩))) hv.head
    · exact does_nilc hop (.inr (.inl ⟨_, _, rfl⟩)) hv.head
    · exact does_nilc hop (.inr (.inr (.inl ⟨_, _, _, rfl⟩))) hv.head
  case binOp.bin b t x y yt b' =>
    simp only [beq_iff_eq] at hchk
    subst hchk
    split at hs
    · obtain ⟨v, hb, rfl⟩ := Option.map_eq_some_iff.1 hs
      exact does_bin hop hv.head hv.tail.head hb
    · cases hs
  case binOp.eqB b t x y yt neg =>
    simp only [Bool.and_eq_true, beq_iff_eq] at hchk
    obtain ⟨h1, h2⟩ := hchk
    split at h2
    · rename_i ht
      split at hs <;> cases hs
      exact does_eqB hop h1 ht hv.head hv.tail.head
    · cases h2
  case binOp.eqN b t x y yt k neg =>
    simp only [Bool.and_eq_true, beq_iff_eq] at hchk
    obtain ⟨⟨h1, h2⟩, h3⟩ := hchk
    split at hs
    · split at hs
      · rename_i ha hb
        split at hs <;> cases hs
        rename_i hab
        exact does_eqN hop h1 h3 hv.head hv.tail.head ha hb hab h2
      · cases hs
    · cases hs
  case binOp.eqS b t x y yt ks neg =>
    simp only [Bool.and_eq_true, beq_iff_eq] at hchk
    obtain ⟨h1, h2⟩ := hchk
    split at h2
    · rename_i fs ht
      simp only [Bool.and_eq_true, Bool.not_eq_true'] at h2
      obtain ⟨⟨h3, h4⟩, h5⟩ := h2
      split at hs
      · obtain ⟨v, hb, rfl⟩ := Option.map_eq_some_iff.1 hs
        exact does_eqS hop h1 ht h4 h5 h3 hv.head hv.tail.head hb
      · cases hs
    · cases h2
  case unOp.un u t x u' =>
    simp only [beq_iff_eq] at hchk
    subst hchk
    split at hs
    · obtain ⟨v, hb, rfl⟩ := Option.map_eq_some_iff.1 hs
      exact does_un hop hv.head hb
    · cases hs
  case convert.conv s d x k =>
    simp only [Bool.and_eq_true] at hchk
    obtain ⟨h1, h2⟩ := hchk
    split at h2
    · rename_i k' hd
      simp only [beq_iff_eq] at h2
      subst h2
      split at hs <;> cases hs
      exact does_conv hop h1 hd hv.head
    · cases h2
  case makeInterface.mki t x t' =>
    simp only [Bool.and_eq_true, beq_iff_eq] at hchk
    obtain ⟨rfl, h2⟩ := hchk
    split at hs <;> cases hs
    cases hd : P.underlying t' with
    | none => simp [hd] at h2
    | some d => exact does_mki hop hd (fun ms e => by subst e; simp [hd] at h2) hv.head
  case typeAssert.tas x xt t' ok t z =>
    simp only [Bool.and_eq_true, beq_iff_eq] at hchk
    obtain ⟨⟨⟨rfl, rfl⟩, h3⟩, h4⟩ := hchk
    unfold zeroAgg at h3
    split at h3
    · rename_i i hi
      split at h3
      · rename_i ys hzz
        split at h4
        · rename_i fs hfs
          obtain ⟨a, rfl⟩ : ∃ a, vs = [a] := by
            cases vs with
            | nil => simp at hs
            | cons a l => cases l with
              | nil => exact ⟨a, rfl⟩
              | cons b l => simp at hs
          cases r with
          | val v => exact does_tas (zv := .agg ys) hop hfs (by simp [zeroValue, typeInfo, hi, hzz]) (VR.agg' (sameVs_spec μ _ _ h3)) hv.head hs
          | new ob mk => split at hs <;> cases hs
        · cases h4
      · cases h3
    · cases h3
  case typeAssert.tasf x xt t' ok t =>
    simp only [Bool.and_eq_true, beq_iff_eq, Bool.not_eq_true'] at hchk
    obtain ⟨⟨rfl, rfl⟩, h4⟩ := hchk
    split at h4
    · rename_i fs hfs
      obtain ⟨a, rfl⟩ : ∃ a, vs = [a] := by
        cases vs with
        | nil => simp at hs
        | cons a l => cases l with
          | nil => exact ⟨a, rfl⟩
          | cons b l => simp at hs
      cases r with
      | val v => exact does_tasf hop hfs hv.head hs
      | new ob mk => split at hs <;> simp at hs
    · cases h4
  case makeFunc.mkfn fn first cap fn' n =>
    simp only [Bool.and_eq_true, beq_iff_eq] at hchk
    obtain ⟨rfl, rfl⟩ := hchk
    cases hs
    exact does_mkfn hop hv
  case makeSlice.mksl t x y z sz bytes =>
    simp only [Bool.and_eq_true, beq_iff_eq, decide_eq_true_eq] at hchk
    obtain ⟨⟨h2, h3⟩, h4⟩ := hchk
    split at h4
    · rename_i e he
      simp only [Bool.and_eq_true] at h4
      obtain ⟨hz, hi⟩ := h4
      split at hi
      · rename_i i hi2
        simp only [Bool.and_eq_true, beq_iff_eq] at hi
        split at hs
        · split at hs <;> cases hs
          rename_i hc
          exact makes_mksl hB hop he hz hi2 hi.1 hi.2 h2 h3 hv.head hv.tail.head hc.1 hc.2.1 hc.2.2.1 hc.2.2.2
        · cases hs
      · cases hi
    · cases h4
  case slice.slc t x lo hi mx sz l h m =>
    simp only [Bool.and_eq_true, beq_iff_eq] at hchk
    obtain ⟨⟨⟨⟨h1, rfl⟩, rfl⟩, rfl⟩, h5⟩ := hchk
    have hm : mx.isSome = true → hi.isSome = true := by intro hm; simpa [hm] using h5
    have e1 : (lo.toList ++ hi.toList ++ mx.toList).map ρ = (lo.map ρ).toList ++ (hi.map ρ).toList ++ (mx.map ρ).toList := by cases lo <;> cases hi <;> cases mx <;> rfl
    rw [e1] at hv
    split at h1
    · rename_i e he
      split at h1
      · rename_i i hi'
        simp only [beq_iff_eq] at h1
        split at hs
        · split at hs
          · rename_i hsz
            subst hsz
            obtain ⟨⟨l, h, m⟩, hb, rfl⟩ := Option.map_eq_some_iff.1 hs
            exact does_slc hop he hi' h1 hm hv.head hv.tail hb
          · cases hs
        · split at hs <;> cases hs
          rename_i hb
          exact does_slcNil hop he hi' hm hv.head hv.tail hb
        · split at hs
          · rename_i hsz
            subst hsz
            obtain ⟨⟨l, h, m⟩, hb, rfl⟩ := Option.map_eq_some_iff.1 hs
            exact does_slcV hop he hi' h1 hm hv.head hv.tail hb
          · cases hs
        · cases hs
      · cases h1
    · cases h1
  case slice.slcT t x lo hi mx l h =>
    simp only [Bool.and_eq_true, beq_iff_eq] at hchk
    obtain ⟨⟨⟨h1, rfl⟩, rfl⟩, h4⟩ := hchk
    have hmx : mx = none := by simpa using h4
    subst hmx
    have e1 : (lo.toList ++ hi.toList ++ (none : Option Operand).toList).map ρ = (lo.map ρ).toList ++ (hi.map ρ).toList := by cases lo <;> cases hi <;> rfl
    rw [e1] at hv
    split at h1
    · rename_i ht
      split at hs
      · obtain ⟨⟨l, h, m⟩, hb, rfl⟩ := Option.map_eq_some_iff.1 hs
        exact does_slcT hop ht hv.head hv.tail hb
      · cases hs
    · cases h1
  case slice.slcA t x lo hi mx len sz l h =>
    simp only [Bool.and_eq_true, beq_iff_eq] at hchk
    obtain ⟨⟨⟨h1, rfl⟩, rfl⟩, h4⟩ := hchk
    have hmx : mx = none := by simpa using h4
    subst hmx
    have e1 : (lo.toList ++ hi.toList ++ (none : Option Operand).toList).map ρ = (lo.map ρ).toList ++ (hi.map ρ).toList := by cases lo <;> cases hi <;> rfl
    rw [e1] at hv
    split at h1
    · rename_i n e he
      simp only [Bool.and_eq_true, beq_iff_eq] at h1
      obtain ⟨rfl, h2⟩ := h1
      split at h2
      · rename_i i hi'
        split at hs
        · obtain ⟨⟨l, h, m⟩, hb, rfl⟩ := Option.map_eq_some_iff.1 hs
          exact does_slcA hop he hi' (by simpa using h2) hv.head hv.tail hb
        · cases hs
      · cases h2
    · cases h1
  case fieldAddr.fadd s x f off =>
    split at hchk
    · rename_i fs hfs
      split at hchk
      · rename_i fd hfd
        simp only [Bool.and_eq_true, beq_iff_eq] at hchk
        obtain ⟨h1, h2⟩ := hchk
        split at h2
        · rename_i i hi
          split at hs <;> cases hs
          · exact does_fadd hop hfs hfd h1 hi (by simpa using h2) hv.head
          · exact does_faddV hop hfs hfd h1 hi (by simpa using h2) hv.head
        · cases h2
      · cases hchk
    · cases hchk
  case field.fld1 s x f off =>
    split at hchk
    · rename_i fs hfs
      split at hchk
      · rename_i fd hfd
        simp only [Bool.and_eq_true, beq_iff_eq] at hchk
        obtain ⟨h1, h2⟩ := hchk
        split at hs
        · obtain ⟨v, hb, rfl⟩ := Option.map_eq_some_iff.1 hs
          exact does_fld1 hop hfs hfd h1 (notAggDesc (P := P) (w := w) h2) hv.head hb
        · cases hs
      · cases hchk
    · cases hchk
  case field.fldN s x f off n =>
    split at hchk
    · rename_i fs hfs
      split at hchk
      · rename_i fd hfd
        simp only [Bool.and_eq_true, beq_iff_eq] at hchk
        obtain ⟨⟨h1, h2⟩, h3⟩ := hchk
        split at h2
        · rename_i i hi
          split at hs
          · split at hs <;> cases hs
            exact does_fldN hop hfs hfd h1 hi (by simpa using h2) (aggDesc (P := P) (w := w) h3) hv.head
          · cases hs
        · cases h2
      · cases hchk
    · cases hchk
  case indexAddr.idx t x ix sz =>
    split at hchk
    · rename_i e he
      split at hchk
      · rename_i i hi
        split at hs
        · split at hs <;> cases hs
          rename_i hc
          exact does_idx hop he hi (by simpa using hchk) hv.head hv.tail.head hc.1 hc.2
        · split at hs <;> cases hs
          rename_i hc
          obtain ⟨rfl, hc2, hc3, hc4⟩ := hc
          exact does_idxV hop he hi (by simpa using hchk) hc2 hv.head hv.tail.head hc3 hc4
        · cases hs
      · cases hchk
    · cases hchk
  case indexAddr.idxA t x ix len sz =>
    split at hchk
    · rename_i n e he
      simp only [Bool.and_eq_true, beq_iff_eq] at hchk
      obtain ⟨rfl, h2⟩ := hchk
      split at h2
      · rename_i i hi
        split at hs
        · split at hs <;> cases hs
          rename_i hc
          exact does_idxA hop he hi (by simpa using h2) hv.head hv.tail.head hc.1 hc.2
        · split at hs <;> cases hs
          rename_i hc
          exact does_idxAV hop he hi (by simpa using h2) hv.head hv.tail.head hc.1 hc.2
        · cases hs
      · cases h2
    · cases hchk
  case index.idxS t x ix =>
    split at hchk
    · rename_i ht
      split at hs
      · split at hs
        · rename_i hc
          obtain ⟨c, hb, rfl⟩ := Option.map_eq_some_iff.1 hs
          exact does_idxS hop ht hv.head hv.tail.head hc hb
        · cases hs
      · cases hs
    · cases hchk
  case index.idxV1 t x ix len =>
    split at hchk
    · rename_i n e he
      simp only [Bool.and_eq_true, beq_iff_eq] at hchk
      obtain ⟨⟨rfl, h2⟩, h3⟩ := hchk
      split at h2
      · rename_i i hi
        split at hs
        · split at hs
          · rename_i hc
            obtain ⟨v, hb, rfl⟩ := Option.map_eq_some_iff.1 hs
            exact does_idxV1 hop he hi (by simpa using h2) (notAggDesc (P := P) (w := w) h3) hv.head hv.tail.head hc.1 hc.2 hb
          · cases hs
        · cases hs
      · cases h2
    · cases hchk
  case index.idxVN t x ix len sz =>
    split at hchk
    · rename_i n e he
      simp only [Bool.and_eq_true, beq_iff_eq] at hchk
      obtain ⟨⟨rfl, h2⟩, h3⟩ := hchk
      split at h2
      · rename_i i hi
        split at hs
        · split at hs <;> cases hs
          rename_i hc
          exact does_idxVN hop he hi (by simpa using h2) (aggDesc (P := P) (w := w) h3) hv.head hv.tail.head hc.1 hc.2.1
        · cases hs
      · cases h2
    · cases hchk
  case extract.ext x i i' =>
    simp only [beq_iff_eq] at hchk
    subst hchk
    split at hs
    · obtain ⟨v, hb, rfl⟩ := Option.map_eq_some_iff.1 hs
      exact does_ext hop hv.head hb
    · cases hs
  case call.lenS c =>
    simp only [Bool.and_eq_true, beq_iff_eq] at hchk
    obtain ⟨⟨h1, h2⟩, h3⟩ := hchk
    split at h1
    · rename_i hc
      split at h3
      · rename_i t ht
        split at h3
        · rename_i e he
          obtain ⟨x, hx⟩ : ∃ x, c.args.toList = [x] := by
            have : c.args.toList.length = 1 := by simpa using h2
            cases h : c.args.toList with
            | nil => rw [h] at this; cases this
            | cons x l => cases l with
              | nil => exact ⟨x, rfl⟩
              | cons y l => rw [h] at this; simp at this
          rw [hx] at hv
          split at hs <;> cases hs
          · exact does_lenS hop hc ht he hx (.inl ⟨_, _, _, _, _, _, rfl⟩) hv.head
          · exact does_lenS hop hc ht he hx (n := 0) (.inr (.inl ⟨rfl, rfl⟩)) hv.head
          · exact does_lenS hop hc ht he hx (.inr (.inr ⟨_, _, rfl⟩)) hv.head
        · cases h3
      · cases h3
    · cases h1
  case call.lenT c =>
    simp only [Bool.and_eq_true, beq_iff_eq] at hchk
    obtain ⟨⟨h1, h2⟩, h3⟩ := hchk
    split at h1
    · rename_i hc
      split at h3
      · rename_i t ht
        split at h3
        · rename_i he
          obtain ⟨x, hx⟩ : ∃ x, c.args.toList = [x] := by
            have : c.args.toList.length = 1 := by simpa using h2
            cases h : c.args.toList with
            | nil => rw [h] at this; cases this
            | cons x l => cases l with
              | nil => exact ⟨x, rfl⟩
              | cons y l => rw [h] at this; simp at this
          rw [hx] at hv
          split at hs <;> cases hs
          exact does_lenT hop hc ht he hx hv.head
        · cases h3
      · cases h3
    · cases h1
  case call.lenA c n =>
    simp only [Bool.and_eq_true, beq_iff_eq] at hchk
    obtain ⟨⟨h1, h2⟩, h3⟩ := hchk
    split at h1
    · rename_i hc
      split at h3
      · rename_i t ht
        split at h3
        · rename_i k e he
          simp only [beq_iff_eq] at h3
          subst h3
          obtain ⟨x, hx⟩ : ∃ x, c.args.toList = [x] := by
            have : c.args.toList.length = 1 := by simpa using h2
            cases h : c.args.toList with
            | nil => rw [h] at this; cases this
            | cons x l => cases l with
              | nil => exact ⟨x, rfl⟩
              | cons y l => rw [h] at this; simp at this
          split at hs <;> cases hs
          exact does_lenA hop hc ht he hx
        · cases h3
      · cases h3
    · cases h1
  case call.min c =>
    split at hchk
    · rename_i hc
      split at hs
      · obtain ⟨v, hb, rfl⟩ := Option.map_eq_some_iff.1 hs
        exact does_min hop hc hv hb
      · cases hs
    · cases hchk
  case call.max c =>
    split at hchk
    · rename_i hc
      split at hs
      · obtain ⟨v, hb, rfl⟩ := Option.map_eq_some_iff.1 hs
        exact does_max hop hc hv hb
      · cases hs
    · cases hchk
end Go.Ai
/- The operations that write: store, append, copy. -/
namespace Go.Ai
set_option linter.unusedSectionVars false
variable [DrMode]
set_option linter.unusedVariables false
set_option linter.unusedSimpArgs false

def setAt (c : List AV) (o : Nat) (xs : List AV) : List AV := c.take o ++ xs ++ c.drop (o + xs.length)
def rdSl (H : Heap) (b g o k : Nat) : Option (List AV) :=
  match H[b]? with
  | some (.cells g' _ c) => if g' = g ∧ o + k ≤ c.length then some ((c.drop o).take k) else none
  | _ => none
/-- How many elements a slice has, and their cells. -/
def srcCells (H : Heap) (sz : Nat) (v : AV) : Option (Nat × List AV) :=
  match v with
  | .nils => some (0, [])
  | .sl b g o n sz' _ _ => if sz' = sz then (if n = 0 then some (0, []) else (rdSl H b g o (n * sz)).map fun c => (n, c)) else none
  | .vs n sz' xs => if sz' = sz then some (n, xs) else none
  | _ => none
def strCells (s : ByteArray) : List AV := s.data.toList.map fun b => .int .u8 b.toNat

inductive XOp where
  | store (n : Nat)
  | app (sz bytes : Nat)
  | appT
  | copy (sz : Nat)
  | copyT
  | clear (sz : Nat) (z : List AV)

/-- An append of m elements, the cells xs, behind the slice s. -/
def appStep (sz bytes : Nat) (s : AV) (m : Nat) (xs : List AV) (H : Heap) : Option (AV × Heap) :=
  if !(xs.all (·.one)) then none else
  match s with
  | .nils => if m = 0 then some (.nils, H) else if m * bytes ≤ 140737488355328 ∧ m ≤ 140737488355328 then some (.sl H.length 0 0 m sz m false, H ++ [.cells 0 false xs]) else none
  | .sl b g o n sz' cl ex =>
    if sz' ≠ sz then none else
    if m = 0 then some (s, H) else
    if n + m ≤ cl then
      match H[b]? with
      | some (.cells g' false c) => if g' = g ∧ o + n * sz + xs.length ≤ c.length then some (.sl b g o (n + m) sz cl ex, H.set b (.cells g false (setAt c (o + n * sz) xs))) else none
      | _ => none
    else if (n + m) * bytes ≤ 140737488355328 ∧ n + m ≤ 140737488355328 then
      if ex then
        if n = 0 then some (.sl H.length 0 0 m sz m false, H ++ [.cells 0 false xs])
        else match rdSl H b g o (n * sz) with
          | some old => some (.sl H.length 0 0 (n + m) sz (n + m) false, H ++ [.cells 0 false (old ++ xs)])
          | none => none
      else
        match H[b]? with
        | some (.cells g' false c) => if g' = g ∧ o = 0 ∧ 0 < n ∧ n * sz = c.length then some (.sl b (g + 1) 0 (n + m) sz (n + m) false, H.set b (.cells (g + 1) false (c ++ xs))) else none
        | _ => none
    else none
  | _ => none

def xstep (o : XOp) (vs : List AV) (H : Heap) : Option (AV × Heap) :=
  match o with
  | .store n => (match vs with
    | [.ptr b g o, v] => (match H[b]? with
      | some (.cells g' false c) => if g' = g ∧ v.cells.length = n ∧ v.cells.all (·.one) = true ∧ o + n ≤ c.length then some (.un, H.set b (.cells g false (setAt c o v.cells))) else none
      | _ => none)
    | _ => none)
  | .app sz bytes => (match vs with
    | [s, x] => (match srcCells H sz x with
      | some (m, xs) => appStep sz bytes s m xs H
      | none => none)
    | _ => none)
  | .appT => (match vs with
    | [s, .str x] => appStep 1 1 s x.size (strCells x) H
    | _ => none)
  | .copy sz => (match vs with
    | [.nils, x] => (match srcCells H sz x with
      | some _ => some (.int .i64 0, H)
      | none => none)
    | [.sl b g o n sz' _ _, x] => (match srcCells H sz x with
      | some (m, xs) => if sz' = sz then (if min m n = 0 then some (.int .i64 0, H) else
          match H[b]? with
          | some (.cells g' false c) => if g' = g ∧ o + (xs.take (min m n * sz)).length ≤ c.length ∧ xs.all (·.one) = true then some (.int .i64 (min m n : Nat), H.set b (.cells g false (setAt c o (xs.take (min m n * sz))))) else none
          | _ => none) else none
      | none => none)
    | _ => none)
  | .copyT => (match vs with
    | [.sl b g o n sz' _ _, .str x] => if sz' = 1 then (if min x.size n = 0 then some (.int .i64 0, H) else
          match H[b]? with
          | some (.cells g' false c) => if g' = g ∧ o + ((strCells x).take (min x.size n)).length ≤ c.length then some (.int .i64 (min x.size n : Nat), H.set b (.cells g false (setAt c o ((strCells x).take (min x.size n))))) else none
          | _ => none) else none
    | _ => none)
  | .clear sz z => (match vs with
    | [.nils] => some (.tup [], H)
    | [.sl b g o n sz' _ _] => if n = 0 then some (.tup [], H) else (match H[b]? with
      | some (.cells g' false c) => if g' = g ∧ sz' = sz ∧ z.all (·.one) = true ∧ o + n * sz ≤ c.length then some (.tup [], H.set b (.cells g false (setAt c o (repA z n)))) else none
      | _ => none)
    | _ => none)

def xargs : Op → List Operand
  | .store _ a v => [a, v]
  | .call c => c.args.toList
  | _ => []
def elemIs (P : Program) (t : TypeId) (sz : Nat) (bytes : Option Nat) : Bool :=
  match P.underlying t with
  | some (.slice e) => (match P.info? e with
    | some i => i.size == sz && decide (0 < sz) && (match bytes with | some b => i.bytes == b && (match i.zero with | some v => v.cells.size == sz | none => false) | none => true)
    | none => false)
  | _ => false
def chkX (P : Program) (o : XOp) (op : Op) : Bool :=
  match o with
  | .store n => (match op with
    | .store t _ _ => (match P.info? t with | some i => i.size == n | none => false)
    | _ => false)
  | .app sz bytes => (match op with
    | .call c => (c.callee matches .builtin .append) && c.args.size == 2 && (match c.argTypes[0]? with | some t => elemIs P t sz (some bytes) | none => false) && (match c.argTypes[1]? with | some t => (P.underlying t matches some (.slice _)) | none => false)
    | _ => false)
  | .appT => (match op with
    | .call c => (c.callee matches .builtin .append) && c.args.size == 2 && (match c.argTypes[0]? with | some t => elemIs P t 1 (some 1) | none => false) && (match c.argTypes[1]? with | some t => (P.underlying t matches some .string) | none => false)
    | _ => false)
  | .copy sz => (match op with
    | .call c => (c.callee matches .builtin .copy) && c.args.size == 2 && (match c.argTypes[0]? with | some t => elemIs P t sz none | none => false)
    | _ => false)
  | .copyT => (match op with
    | .call c => (c.callee matches .builtin .copy) && c.args.size == 2 && (match c.argTypes[0]? with | some t => elemIs P t 1 none | none => false)
    | _ => false)
  | .clear sz z => (match op with
    | .call c => (c.callee matches .builtin .clear) && c.args.size == 1 && z.length == sz && decide (0 < sz) && (match c.argTypes[0]? with | some t => (match P.underlying t with | some (.slice e) => zeroIs P e z | _ => false) | none => false)
    | _ => false)

/-! ### A write into one block -/
structure Wrote (blk off : Nat) (vs : List Value) (w w' : World) : Prop where
  other : ∀ k, k ≠ blk → w'.heap[k]? = w.heap[k]?
  size : w'.heap.size = w.heap.size
  cell : ∀ o, w'.cell? ⟨blk, o, none⟩ = if off ≤ o ∧ o < off + vs.length then vs[o - off]? else w.cell? ⟨blk, o, none⟩
  frozen : ∀ o, w'.frozen? ⟨blk, o, none⟩ = w.frozen? ⟨blk, o, none⟩
  os : w'.os = w.os
  tape : w'.tape = w.tape
  output : w'.output = w.output
  drawn : w.drawn ≤ w'.drawn
variable {P : Program}
theorem run_storeCells {blk off : Nat} : ∀ (vs : List Value) (i : Nat) (w : World), (∀ j, j < vs.length → (∃ u, w.cell? ⟨blk, off + i + j, none⟩ = some u) ∧ w.frozen? ⟨blk, off + i + j, none⟩ = false) → (∀ v ∈ vs, v.oneCell' = true) →
    ∃ w', (storeCells ⟨blk, off, none⟩ vs i).run P w = .ok () w' ∧ Wrote blk (off + i) vs w w' := by
  intro vs
  induction vs with
  | nil => intro i w _ _; exact ⟨w, by simp [storeCells], fun _ _ => rfl, rfl, fun o => by simp; omega, fun _ => rfl, rfl, rfl, rfl, Nat.le_refl _⟩
  | cons v vs ih =>
    intro i w h hv
    obtain ⟨⟨u, hu⟩, hf⟩ := h 0 (by simp)
    simp only [Nat.add_zero] at hu hf
    have hst : (store ((⟨blk, off, none⟩ : Addr).add i) v).run P w = .ok () (w.setCell ⟨blk, off + i, none⟩ v) := by
      rw [addr_add _ _ rfl, run_store P w _ v _ (hv v (by simp))]
      simp [hu, hf]
    obtain ⟨w', h1, h2⟩ := ih (i + 1) (w.setCell ⟨blk, off + i, none⟩ v) (by
      intro j hj
      obtain ⟨⟨u', hu'⟩, hf'⟩ := h (j + 1) (by simpa using hj)
      refine ⟨⟨u', ?_⟩, ?_⟩
      · rw [World.cell?_setCell_other _ _ _ _ (by intro e; injection e with _ e2 _; omega)]
        rw [← hu']; congr 2; omega
      · rw [World.frozen?_setCell, ← hf']; congr 2; omega) (fun v' hv' => hv v' (by simp [hv']))
    refine ⟨w', by simp only [storeCells, Sem.run_bind, hst, Result.andThen_ok, h1], ?_, ?_, ?_, ?_, h2.os, h2.tape, h2.output, h2.drawn⟩
    · intro k hk; rw [h2.other k hk]; exact heap_setCell_other w _ k v hk
    · rw [h2.size]; simp
    · intro o
      rw [h2.cell o]
      simp only [List.length_cons]
      by_cases c1 : o = off + i
      · subst c1
        rw [if_neg (by omega), if_pos (by omega), World.cell?_setCell_same w _ v hu]
        simp
      · rw [World.cell?_setCell_other _ _ _ _ (by intro e; injection e with _ e2 _; omega)]
        by_cases c2 : off + i + 1 ≤ o ∧ o < off + i + 1 + vs.length
        · rw [if_pos (by omega), if_pos (by omega)]
          obtain ⟨m, hm⟩ : ∃ m, o - (off + i) = m + 1 := ⟨o - (off + i) - 1, by omega⟩
          rw [hm]
          have : o - (off + (i + 1)) = m := by omega
          rw [this]; simp
        · rw [if_neg (by omega), if_neg (by omega)]
    · intro o; rw [h2.frozen o]; exact World.frozen?_setCell w _ _ v

/-- An object of cells is replaced: by other cells at the same place, or at a new one. -/
theorem HR.repl {B : Nat} {μ ν : Mu} {H : Heap} {w w' : World} {b g g1 : Nat} {c c1 : List AV} {a a1 : At} (h : HR B μ H w) (hb : H[b]? = some (.cells g false c)) (ha : μ b g = some a)
    (hle : μ.le ν) (hν1 : ν b g1 = some a1) (hνo : ∀ b' g', b' ≠ b → ν b' g' = μ b' g') (hνg : ∀ g' x, ν b g' = some x → g' ≤ g1)
    (hblk : a1.blk = a.blk ∨ w.heap.size ≤ a1.blk) (hkeep : ∀ k, k < w.heap.size → k ≠ a.blk → w'.heap[k]? = w.heap[k]?) (hsize : w.heap.size ≤ w'.heap.size)
    (hos : w'.os = w.os) (htape : w'.tape = w.tape) (hout : w'.output = w.output) (hdr : w.drawn ≤ w'.drawn) (hob : obR B ν w' a1 (.cells g1 false c1)) (hsi : ν.im = μ.im) :
    HR B ν (H.set b (.cells g1 false c1)) w' ∧ Ext H (H.set b (.cells g1 false c1)) μ ν w w' := by
  have hlt : b < H.length := (List.getElem?_eq_some_iff.1 hb).1
  have hsame : (H.set b (.cells g1 false c1))[b]? = some (.cells g1 false c1) := by simp [hlt]
  have hoth : ∀ b', b' ≠ b → (H.set b (.cells g1 false c1))[b']? = H[b']? := fun b' hne => by rw [List.getElem?_set_ne (fun e => hne e.symm)]
  have hblk_ne : ∀ b' o' a', b' ≠ b → H[b']? = some o' → o' ≠ .dead → μ b' o'.gen = some a' → a'.blk ≠ a.blk ∧ a'.blk < w.heap.size := by
    intro b' o' a' hne hb' hd ha'
    obtain ⟨a2, ha2, hr2⟩ := h.ob b' o' hb' hd
    rw [ha2] at ha'; cases ha'
    exact ⟨fun e => h.sep b b' _ o' a a' hb hb' (fun e => hne e.symm) rfl hd ha ha2 e.symm, hr2.lt hd⟩
  refine ⟨⟨?_, ?_, ?_, ?_, Nat.le_trans h.base hsize, ?_, ?_⟩, ⟨hle, by simp, ?_, ?_, ?_, hsize, hos, htape, hout, fun _ => hdr, fun k o u hu => .inl (by rw [← hsi]; exact hu)⟩⟩
  · intro b' o' hb' hd
    by_cases e : b' = b
    · subst e; rw [hsame] at hb'; cases hb'; exact ⟨a1, hν1, hob⟩
    · rw [hoth b' e] at hb'
      obtain ⟨a', ha', hr'⟩ := h.ob b' o' hb' hd
      obtain ⟨hn1, hn2⟩ := hblk_ne b' o' a' e hb' hd ha'
      exact ⟨a', hle _ _ _ ha', hr'.keep hle (hkeep _ hn2 hn1) hsize⟩
  · intro b1 b2 o1 o2 x1 x2 hb1 hb2 hne hr hd hx1 hx2
    by_cases e1 : b1 = b
    · subst e1
      rw [hsame] at hb1; cases hb1
      simp only [Ob.gen] at hx1
      rw [hν1] at hx1; cases hx1
      rw [hoth b2 (fun e => hne e.symm)] at hb2
      rw [hνo _ _ (fun e => hne e.symm)] at hx2
      obtain ⟨hn1, hn2⟩ := hblk_ne b2 o2 x2 (fun e => hne e.symm) hb2 hd hx2
      rcases hblk with e | e
      · rw [e]; exact fun e' => hn1 e'.symm
      · omega
    · rw [hoth b1 e1] at hb1
      rw [hνo _ _ e1] at hx1
      have hd1 : o1 ≠ .dead := fun e => by rw [e] at hr; simp [Ob.rw] at hr
      by_cases e2 : b2 = b
      · subst e2
        rw [hsame] at hb2; cases hb2
        simp only [Ob.gen] at hx2
        rw [hν1] at hx2; cases hx2
        obtain ⟨hn1, hn2⟩ := hblk_ne b1 o1 x1 e1 hb1 hd1 hx1
        rcases hblk with e | e
        · rw [e]; exact hn1
        · omega
      · rw [hoth b2 e2] at hb2
        rw [hνo _ _ e2] at hx2
        exact h.sep b1 b2 o1 o2 x1 x2 hb1 hb2 hne hr hd hx1 hx2
  · intro b' o' g' x hb' hd hx
    by_cases e : b' = b
    · subst e; rw [hsame] at hb'; cases hb'; exact hνg g' x hx
    · rw [hoth b' e] at hb'; rw [hνo _ _ e] at hx; exact h.gen b' o' g' x hb' hd hx
  · intro b' g' hb'
    simp at hb'
    rw [hνo _ _ (by omega)]; exact h.fresh b' g' hb'
  · intro k j u hu
    rw [hsi] at hu
    obtain ⟨h1, h2⟩ := h.im k j u hu
    have hk : k ≠ a.blk := fun e => h.imsep b _ a k j u hb rfl ha hu e.symm
    exact ⟨Nat.lt_of_lt_of_le h1 hsize, by rw [cell?_same (hkeep k h1 hk)]; exact h2⟩
  · intro b' o' x k j u hb' hr hx hu
    rw [hsi] at hu
    obtain ⟨h1, _⟩ := h.im k j u hu
    by_cases e : b' = b
    · subst e; rw [hsame] at hb'; cases hb'
      simp only [Ob.gen] at hx
      rw [hν1] at hx; cases hx
      rcases hblk with e | e
      · rw [e]; exact h.imsep _ _ a k j u hb rfl ha hu
      · omega
    · rw [hoth b' e] at hb'; rw [hνo _ _ e] at hx; exact h.imsep b' o' x k j u hb' hr hx hu
  · intro b' o' hb' hr
    have e : b' ≠ b := fun e => by subst e; rw [hb] at hb'; cases hb'; simp [Ob.rw] at hr
    exact ⟨by rw [hoth b' e]; exact hb', fun g' => hνo _ _ e⟩
  · intro b' o1 x hb' hr hx
    by_cases e : b' = b
    · subst e
      rw [hsame] at hb'; cases hb'
      simp only [Ob.gen] at hx
      rw [hν1] at hx; cases hx
      rcases hblk with e | e
      · exact .inr ⟨_, a, hb, by simp, fun h => h, ha, e.symm⟩
      · exact .inl e
    · rw [hoth b' e] at hb'; rw [hνo _ _ e] at hx
      exact .inr ⟨o1, x, hb', hr, fun h => h, hx, rfl⟩
  · intro k hk hne
    exact hkeep k hk (fun e => hne b _ a hb rfl ha e.symm)

variable {μ : Mu} {w : World} {ρ : Operand → Value} {o : Oper} {B : Nat} {H : Heap}

theorem rdSl_spec {b g p k : Nat} {xs : List AV} (h : rdSl H b g p k = some xs) : ∃ ro c, H[b]? = some (.cells g ro c) ∧ p + k ≤ c.length ∧ xs = (c.drop p).take k := by
  unfold rdSl at h
  split at h
  · rename_i g' ro c hb
    split at h
    · rename_i hc; obtain ⟨rfl, hc⟩ := hc; cases h; exact ⟨ro, c, hb, hc, rfl⟩
    · cases h
  · cases h
theorem run_src {sz m : Nat} {v : AV} {u : Value} {xs : List AV} (hH : HR B μ H w) (hv : VR μ v u) (h : srcCells H sz v = some (m, xs)) :
    xs.length = m * sz ∧ (Builtin.lenOf u).run P w = .ok m w ∧ ∀ k, k ≤ m → ∃ us : List Value, (Builtin.firstCells sz k u).run P w = .ok us.toArray w ∧ VRs μ (xs.take (k * sz)) us := by
  unfold srcCells at h
  split at h
  · cases h
    cases hv
    refine ⟨by simp, by simp [Builtin.lenOf], fun k hk => ⟨[], by simp [Builtin.firstCells], by simpa using VRs.nil μ⟩⟩
  · rename_i b g p n sz' cl ex
    split at h
    · rename_i hsz; subst hsz
      cases hv
      rename_i c q hn hc he hh
      split at h
      · rename_i h0; cases h
        refine ⟨by simp, by simp [Builtin.lenOf, h0], fun k hk => ⟨[], ?_, by simpa using VRs.nil μ⟩⟩
        have : k = 0 := by omega
        subst this
        simp [Builtin.firstCells, loadCells, loadCellsFrom]
      · rename_i h0
        obtain ⟨xs', hrd, e⟩ := Option.map_eq_some_iff.1 h
        cases e
        obtain ⟨ro, c', hb, hl, rfl⟩ := rdSl_spec hrd
        obtain ⟨a, ha, hob⟩ := hH.ob b _ hb (by simp)
        obtain ⟨a', ha', rfl, _⟩ := hh (by omega)
        simp only [Ob.gen] at ha
        rw [ha] at ha'; cases ha'
        refine ⟨by simp; omega, by simp [Builtin.lenOf], fun k hk => ?_⟩
        have hkl : k * sz' ≤ m * sz' := Nat.mul_le_mul_right _ hk
        obtain ⟨us, hus, hr⟩ := run_cells (P := P) hob p (k * sz') (by omega)
        refine ⟨us, by simp [Builtin.firstCells, hus], ?_⟩
        rw [List.take_take, Nat.min_eq_left hkl]
        exact hr
    · cases h
  · rename_i n sz' xs0
    split at h
    · rename_i hsz; subst hsz
      cases h
      obtain ⟨kk, off, q, c, ys, rfl, hn, hl, hp, ⟨hlen, g2⟩, g3, h9⟩ := hv.vs_inv
      refine ⟨hl, by simp [Builtin.lenOf], fun k hk => ?_⟩
      have hkl : k * sz' ≤ m * sz' := Nat.mul_le_mul_right _ hk
      have hts := VRs.take (⟨hlen, g2⟩ : VRs μ xs ys) (k * sz')
      refine ⟨ys.take (k * sz'), ?_, hts⟩
      rcases Nat.eq_zero_or_pos (k * sz') with e0 | e0
      · rw [e0]
        simp [Builtin.firstCells, loadCells, loadCellsFrom, e0]
      · have := hp (by omega)
        subst this
        have := run_cellsV (P := P) (w := w) (fun k o u hu => (hH.im k o u hu).2) g3 0 (k * sz') (by omega)
        simp only [Nat.add_zero, List.drop_zero] at this
        simp [Builtin.firstCells, this]
    · cases h
  · cases h
theorem run_srcT (s : ByteArray) : (strCells s).length = s.size ∧ (Builtin.lenOf (.string s)).run P w = .ok s.size w ∧ ∀ k, k ≤ s.size → ∃ us : List Value, (Builtin.firstCells 1 k (.string s)).run P w = .ok us.toArray w ∧ VRs μ ((strCells s).take k) us := by
  have hsz : s.data.toList.length = s.size := rfl
  refine ⟨by rw [strCells, List.length_map, hsz], by simp [Builtin.lenOf], fun k hk => ⟨(s.data.toList.take k).map fun b => Value.int .u8 b.toNat, ?_, ?_⟩⟩
  · have e : ((s.extract 0 k).data.map fun b => Value.int .u8 (b.toNat : Int)) = ((s.data.toList.take k).map fun b => Value.int .u8 b.toNat).toArray := by
      apply Array.ext'
      rw [Array.toList_map, ByteArray.data_extract, Array.toList_extract, List.extract_eq_take_drop]
      simp
    simp only [Builtin.firstCells, Sem.run_pure]
    rw [e]
  rw [strCells, ← List.map_take]
  refine ⟨by simp, fun i x y hx hy => ?_⟩
  simp only [List.getElem?_map] at hx hy
  cases hb : (s.data.toList.take k)[i]? with
  | none => rw [hb] at hx; cases hx
  | some b => rw [hb] at hx hy; cases hx; cases hy; exact .int _ _
theorem VRs.oneCells {xs : List AV} {us : List Value} (h : VRs μ xs us) (h1 : xs.all (·.one) = true) : ∀ v ∈ us, v.oneCell' = true := by
  intro v hv
  obtain ⟨i, hi⟩ := List.mem_iff_getElem?.1 hv
  have hlt : i < xs.length := by rw [h.1]; exact (List.getElem?_eq_some_iff.1 hi).1
  exact (h.2 i xs[i] v (List.getElem?_eq_getElem hlt) hi).one (List.all_eq_true.1 h1 _ (List.getElem_mem hlt))
theorem setAt_len {c xs : List AV} {p : Nat} (h : p + xs.length ≤ c.length) : (setAt c p xs).length = c.length := by simp [setAt]; omega
theorem setAt_get {c xs : List AV} {p : Nat} (h : p + xs.length ≤ c.length) (i : Nat) : (setAt c p xs)[i]? = if p ≤ i ∧ i < p + xs.length then xs[i - p]? else c[i]? := by
  unfold setAt
  rw [List.getElem?_append, List.getElem?_append]
  simp only [List.length_append, List.length_take, List.getElem?_take, List.getElem?_drop]
  have : min p c.length = p := by omega
  rw [this]
  by_cases h1 : i < p
  · rw [if_pos (by omega), if_pos h1, if_pos h1, if_neg (by omega)]
  · by_cases h2 : i < p + xs.length
    · rw [if_pos h2, if_neg h1, if_pos (by omega)]
    · rw [if_neg h2, if_neg (by omega)]; congr 1; omega
/-- Cells are written into an object, within what it holds, or right behind (its room allowing). -/
theorem write_at {b g p : Nat} {c xs : List AV} {us : List Value} {a : At} (hH : HR B μ H w) (hb : H[b]? = some (.cells g false c)) (ha : μ b g = some a) (hx : VRs μ xs us) (h1 : xs.all (·.one) = true) (hl : p + xs.length ≤ a.ext) (i : Nat) (hi : i = p ∨ True) :
    ∃ w', (storeCells ⟨a.blk, a.off + p, none⟩ us 0).run P w = .ok () w' ∧ Wrote a.blk (a.off + p) us w w' := by
  obtain ⟨a', ha', hob⟩ := hH.ob b _ hb (by simp)
  simp only [Ob.gen] at ha'
  rw [ha] at ha'; cases ha'
  have hx1 := hx.1
  exact run_storeCells (P := P) (off := a.off + p) us 0 w (fun j hj => by
    have := (hob.2.2.2.2 rfl).2 (p + j) (by omega)
    have e : a.off + p + 0 + j = a.off + (p + j) := by omega
    rw [e]; exact this) (hx.oneCells h1)
theorem wrote_obR {b g g1 p : Nat} {c c1 xs : List AV} {us : List Value} {a : At} {w' : World} {ν : Mu} (hH : HR B μ H w) (hb : H[b]? = some (.cells g false c)) (ha : μ b g = some a) (hle : μ.le ν) (hx : VRs μ xs us) (hw : Wrote a.blk (a.off + p) us w w')
    (hc : ∀ i v, c1[i]? = some v → if p ≤ i ∧ i < p + xs.length then xs[i - p]? = some v else c[i]? = some v) (hl : c1.length ≤ a.ext) : obR B ν w' a (.cells g1 false c1) := by
  obtain ⟨a', ha', hob⟩ := hH.ob b _ hb (by simp)
  simp only [Ob.gen] at ha'
  rw [ha] at ha'; cases ha'
  have hx1 := hx.1
  refine ⟨by rw [hw.size]; exact hob.1, hl, ?_, fun h => (by cases h), fun _ => ⟨(hob.2.2.2.2 rfl).1, fun i hi => ⟨?_, ?_⟩⟩⟩
  · intro i v hv
    have := hc i v hv
    rw [hw.cell]
    split at this
    · rename_i hi
      rw [if_pos (by omega)]
      obtain ⟨y, hy, hr⟩ := hx.get this
      exact ⟨y, by rw [← hy]; congr 1; omega, hr.mono hle⟩
    · rename_i hi
      rw [if_neg (by omega)]
      obtain ⟨u, hu, hr⟩ := hob.2.2.1 i v this
      exact ⟨u, hu, hr.mono hle⟩
  · rw [hw.cell]
    split
    · rename_i hi'
      exact ⟨us[a.off + i - (a.off + p)], List.getElem?_eq_getElem (by omega)⟩
    · exact ((hob.2.2.2.2 rfl).2 i hi).1
  · rw [hw.frozen]; exact ((hob.2.2.2.2 rfl).2 i hi).2
/-- The write, whole: an object of cells is written into. -/
theorem write_set {b g p : Nat} {c xs : List AV} {us : List Value} {a : At} (hH : HR B μ H w) (hb : H[b]? = some (.cells g false c)) (ha : μ b g = some a) (hx : VRs μ xs us) (h1 : xs.all (·.one) = true) (hl : p + xs.length ≤ c.length) :
    ∃ w', (storeCells ⟨a.blk, a.off + p, none⟩ us 0).run P w = .ok () w' ∧ HR B μ (H.set b (.cells g false (setAt c p xs))) w' ∧ Ext H (H.set b (.cells g false (setAt c p xs))) μ μ w w' := by
  obtain ⟨a', ha', hob⟩ := hH.ob b _ hb (by simp)
  have e := ha'
  simp only [Ob.gen] at e
  rw [ha] at e; cases e
  have hle : c.length ≤ a.ext := hob.2.1
  obtain ⟨w', hr, hw⟩ := write_at (P := P) (p := p) hH hb ha hx h1 (by omega) 0 (.inr trivial)
  have hob' := wrote_obR (g1 := g) (c1 := setAt c p xs) (ν := μ) hH hb ha (Mu.le_refl μ) hx hw (fun i v hv => by rw [setAt_get hl] at hv; split <;> rename_i hi <;> simpa [hi] using hv) (by rw [setAt_len hl]; exact hle)
  obtain ⟨r1, r2⟩ := hH.repl hb ha (Mu.le_refl μ) ha (fun _ _ _ => rfl) (fun g' x hx => hH.gen b _ g' x hb (by simp) hx) (.inl rfl) (fun k _ hk => hw.other k hk) (by rw [hw.size]; exact Nat.le_refl _) hw.os hw.tape hw.output hw.drawn hob' rfl
  exact ⟨w', hr, r1, r2⟩
end Go.Ai
/- The operations that write do as the model's. -/
namespace Go.Ai
set_option linter.unusedSectionVars false
variable [DrMode]
set_option linter.unusedVariables false
set_option linter.unusedSimpArgs false
variable {P : Program} {μ : Mu} {w : World} {ρ : Operand → Value} {o : Oper} {B : Nat} {H : Heap}

/-- A writing operation does as the model's: a value (none: 'skip'), the abstract memory behind it. -/
def XDoes (B : Nat) (P : Program) (w : World) (ρ : Operand → Value) (o : Oper) (μ : Mu) (H : Heap) (v : AV) (H1 : Heap) : Prop :=
  ∃ u w' ν, ((execOp ρ o).run P w = .ok (.value u) w' ∨ (execOp ρ o).run P w = .ok .skip w' ∧ u = undef) ∧ VR ν v u ∧ HR B ν H1 w' ∧ Ext H H1 μ ν w w'

theorem xdoes_store {t : TypeId} {x y : Operand} {i : TypeInfo} {n b g p : Nat} {c : List AV} {v : AV} (hop : o.op = .store t x y) (hi : P.info? t = some i) (hn : i.size = n) (hH : HR B μ H w) (hx : VR μ (.ptr b g p) (ρ x)) (hy : VR μ v (ρ y))
    (hb : H[b]? = some (.cells g false c)) (hl : v.cells.length = n) (h1 : v.cells.all (·.one) = true) (hp : p + n ≤ c.length) : XDoes B P w ρ o μ H .un (H.set b (.cells g false (setAt c p v.cells))) := by
  cases hxv : ρ x <;> rw [hxv] at hx <;> cases hx
  rename_i a ha
  have hne : v ≠ .un := fun e => by subst e; simp [AV.cells, AV.one] at h1
  have hc := hy.cells hne
  have hs : (sizeOf t).run P w = .ok n w := by rw [run_sizeOf w hi]; simp [Program.cellsOf, hi, hn]
  obtain ⟨w', hr, h2, h3⟩ := write_set (P := P) (p := p) hH hb ha hc h1 (by omega)
  have hsz : (ρ y).cells.size = n := by have := hc.1; simp at this; omega
  refine ⟨undef, w', μ, .inr ⟨?_, rfl⟩, .un _, h2, h3⟩
  simp [execOp, hop, hxv, Instr.storeAt, Instr.sureAddr, storeVar, hs, hsz, hr]

theorem call2 {c : Call} (h : c.args.size = 2) : ∃ x y, c.args = #[x, y] := by
  obtain ⟨l⟩ : ∃ l : List Operand, c.args.toList = l := ⟨_, rfl⟩
  rename_i hl
  have hl2 : l.length = 2 := by rw [← hl]; simpa using h
  match l, hl2 with
  | [x, y], _ => exact ⟨x, y, by rw [← Array.toArray_toList (xs := c.args), hl]⟩
/-- What an append answers: in place. -/
theorem run_app_in {ats : Array TypeId} {ty st e xt : TypeId} {i : TypeInfo} {sz n m c : Nat} {p : Addr} {x : Value} {us : List Value} {w' : World} {d : TypeDesc} (h0 : ats[0]? = some st) (hst : P.underlying st = some (.slice e)) (hi : P.info? e = some i) (hs : i.size = sz)
    (h1 : ats[1]? = some xt) (hxt : P.underlying xt = some d) (hd : ∀ k, d ≠ .int k) (hlen : (Builtin.lenOf x).run P w = .ok m w) (hcap : n + m ≤ c) (hsrc : (Builtin.firstCells sz m x).run P w = .ok us.toArray w)
    (hwr : (storeCells (p.add (n * sz)) us 0).run P w = .ok () w') : (Builtin.append_ ats ty #[.slice (some p) n c, x]).run P w = .ok (.slice (some p) (n + m) c) w' := by
  have hsize : (sizeOf e).run P w = .ok sz w := by rw [run_sizeOf w hi]; simp [Program.cellsOf, hi, hs]
  have hz : (match d with | .int _ => true | _ => false) = false := by cases d <;> first | rfl | exact absurd rfl (hd _)
  simp [Builtin.append_, h0, h1, run_underlying hst, run_underlying hxt, hsize, hz, hlen, hcap, hsrc, hwr]
theorem run_app_nil {ats : Array TypeId} {ty st e xt : TypeId} {i : TypeInfo} {sz : Nat} {x : Value} {d : TypeDesc} (h0 : ats[0]? = some st) (hst : P.underlying st = some (.slice e)) (hi : P.info? e = some i) (hs : i.size = sz)
    (h1 : ats[1]? = some xt) (hxt : P.underlying xt = some d) (hd : ∀ k, d ≠ .int k) (hlen : (Builtin.lenOf x).run P w = .ok 0 w) (hsrc : ∃ us, (Builtin.firstCells sz 0 x).run P w = .ok us w) : (Builtin.append_ ats ty #[.slice none 0 0, x]).run P w = .ok (.slice none 0 0) w := by
  have hsize : (sizeOf e).run P w = .ok sz w := by rw [run_sizeOf w hi]; simp [Program.cellsOf, hi, hs]
  have hz : (match d with | .int _ => true | _ => false) = false := by cases d <;> first | rfl | exact absurd rfl (hd _)
  obtain ⟨us, hus⟩ := hsrc
  simp [Builtin.append_, h0, h1, run_underlying hst, run_underlying hxt, hsize, hz, hlen, hus]

theorem zero_len {zv : Array Value} (n : Nat) : (Builtin.zeroCells zv n).size = n * zv.size := by simp [Builtin.zeroCells]
/-- What an append answers: a new array. -/
theorem run_app_grow {ats : Array TypeId} {ty st e xt : TypeId} {i : TypeInfo} {sz n m c bytes : Nat} {base : Option Addr} {x zv : Value} {os us : List Value} {d : TypeDesc} (h0 : ats[0]? = some st) (hst : P.underlying st = some (.slice e)) (hi : P.info? e = some i) (hs : i.size = sz)
    (hby : i.bytes = bytes) (hz0 : i.zero = some zv) (hzs : zv.cells.size = sz)
    (h1 : ats[1]? = some xt) (hxt : P.underlying xt = some d) (hd : ∀ k, d ≠ .int k) (hlen : (Builtin.lenOf x).run P w = .ok m w) (hcap : ¬ n + m ≤ c) (hb : (n + m) * bytes ≤ 140737488355328) (hnm : n + m ≤ 140737488355328)
    (hold : (Builtin.firstCells sz n (.slice base n c)).run P w.drew = .ok os.toArray w.drew) (hsrc : (Builtin.firstCells sz m x).run P w.drew = .ok us.toArray w.drew) :
    ∃ c' cells, n + m ≤ c' ∧ (Builtin.append_ ats ty #[.slice base n c, x]).run P w = .ok (.slice (some ⟨w.heap.size, 0, none⟩) (n + m) c') (w.drew.alloc (.cells cells e)) ∧ cells.toList.take (os.length + us.length) = os ++ us ∧ cells.size = os.length + us.length + (c' - (n + m)) * sz := by
  have hsize : ∀ w, (sizeOf e).run P w = .ok sz w := fun w => by rw [run_sizeOf w hi]; simp [Program.cellsOf, hi, hs]
  have htyp : ∀ w, (typeInfo e).run P w = .ok i w := fun w => run_typeInfo w hi
  have hzero : ∀ w, (zeroValue e).run P w = .ok zv w := fun w => by simp [zeroValue, htyp, hz0]
  have hz : (match d with | .int _ => true | _ => false) = false := by cases d <;> first | rfl | exact absurd rfl (hd _)
  have hgrow := growslice_fits (need := n + m) (old := c) (bytes := bytes) (by omega) hb
  let c' := Question.cut (.appendCap (n + m) c e) (w.tape w.drawn (.appendCap (n + m) c e))
  have hc' : n + m ≤ c' := by simp only [c', Question.cut]; omega
  refine ⟨c', os.toArray ++ us.toArray ++ Builtin.zeroCells zv.cells (c' - (n + m)), hc', ?_, by simp [List.take_append, List.take_of_length_le], by simp [zero_len, hzs]⟩
  have hmax : ¬ (((n + m : Nat) : Int) > IntKind.i64.max ∧ (False ∨ i.bytes = 0)) := by simp [IntKind.max, IntKind.signed, IntKind.bits]; omega
  have hfits : ¬ Builtin.nextslicecap (n + m) c * i.bytes > 2 ^ 48 := by rw [hby]; omega
  simp only [Builtin.append_, List.getElem?_toArray, h0, h1, List.getElem?_cons_zero, List.getElem?_cons_succ, run_underlying hst, run_underlying hxt, Sem.run_bind, Result.andThen_ok, hsize, hz, hlen, if_neg hcap, Bool.false_eq_true, if_false, htyp, Sem.run_pure, false_or]
  rw [if_neg (by simpa using hmax)]
  simp only [Sem.run_bind, htyp, Result.andThen_ok, if_neg hfits, run_choose, Question.forced, Bool.false_eq_true, if_false, World.drew_eq, run_askRoom, hold, Bool.not_false, if_true, hsrc, hzero, Sem.run_pure, newRow, run_newObj, World.alloc_eq]
  rfl

theorem newblk_obR {cells : Array Value} {t : TypeId} {c : List AV} {us : List Value} {g : Nat} {ν : Mu} (hB : B ≤ w.heap.size) (hc : VRs ν c us) (ht : cells.toList.take us.length = us) : obR B ν (w.alloc (.cells cells t)) ⟨w.heap.size, 0, cells.size⟩ (.cells g false c) := by
  have hl : us.length ≤ cells.size := by
    have := congrArg List.length ht
    simp at this; omega
  refine ⟨by simp, by rw [hc.1]; exact hl, ?_, fun h => (by cases h), fun _ => ⟨hB, fun i hi => ⟨⟨cells[i], ?_⟩, ?_⟩⟩⟩
  · intro i v hv
    obtain ⟨y, hy, hr⟩ := hc.get hv
    refine ⟨y, ?_, hr⟩
    simp only [Nat.zero_add, World.cell?_alloc_new]
    have hi : i < us.length := (List.getElem?_eq_some_iff.1 hy).1
    rw [← ht, List.getElem?_take, if_pos hi] at hy
    simpa using hy
  · simp only [Nat.zero_add, World.cell?_alloc_new]; exact Array.getElem?_eq_getElem hi
  · simp only [Nat.zero_add, World.frozen?_alloc_new]
/-- What is known of an append's second operand. -/
structure Src (P : Program) (μ : Mu) (sz : Nat) (y : Value) (m : Nat) (xs : List AV) (w : World) : Prop where
  len : (Builtin.lenOf y).run P w = .ok m w
  cells : ∃ us : List Value, (Builtin.firstCells sz m y).run P w = .ok us.toArray w ∧ VRs μ xs us
theorem xdoes_app {c : Call} {st e xt : TypeId} {i : TypeInfo} {zv : Value} {d : TypeDesc} {sz bytes m : Nat} {s v : AV} {xs : List AV} {H1 : Heap} {x y : Operand} (hop : o.op = .call c) (hc : c.callee = .builtin .append) (hargs : c.args = #[x, y])
    (h0 : c.argTypes[0]? = some st) (hst : P.underlying st = some (.slice e)) (hi : P.info? e = some i) (hs : i.size = sz) (hsz : 0 < sz) (hby : i.bytes = bytes) (hz0 : i.zero = some zv) (hzs : zv.cells.size = sz)
    (h1 : c.argTypes[1]? = some xt) (hxt : P.underlying xt = some d) (hd : ∀ k, d ≠ .int k) (hH : HR B μ H w) (hx : VR μ s (ρ x)) (hl : xs.length = m * sz) (hsrc : Src P μ sz (ρ y) m xs w) (hsrc' : Src P μ sz (ρ y) m xs w.drew)
    (hstep : appStep sz bytes s m xs H = some (v, H1)) : XDoes B P w ρ o μ H v H1 := by
  obtain ⟨cs, hrun⟩ := run_builtin (P := P) (w := w) (ρ := ρ) hop hc
  have fin : ∀ {u w' ν}, (Builtin.append_ c.argTypes o.type #[ρ x, ρ y]).run P w = .ok u w' → VR ν v u → HR B ν H1 w' → Ext H H1 μ ν w w' → XDoes B P w ρ o μ H v H1 := by
    intro u w' ν hr a1 a2 a3
    refine ⟨u, w', ν, .inl ?_, a1, a2, a3⟩
    rw [hrun, hargs]
    simp [builtin, hr]
  obtain ⟨us, hus, hxu⟩ := hsrc.cells
  obtain ⟨us', hus', hxu'⟩ := hsrc'.cells
  have hul : us.length = m * sz := by rw [← hxu.1, hl]
  have hul' : us'.length = m * sz := by rw [← hxu'.1, hl]
  unfold appStep at hstep
  split at hstep
  · cases hstep
  rename_i hone
  have hone : xs.all (·.one) = true := by simpa using hone
  split at hstep
  · -- nil
    cases hxv : ρ x <;> rw [hxv] at hx <;> cases hx
    split at hstep
    · rename_i hm; cases hstep; subst hm
      exact fin (by rw [hxv]; exact run_app_nil h0 hst hi hs h1 hxt hd hsrc.len ⟨_, hus⟩) .nils hH (Ext.refl _ _ _)
    · rename_i hm
      split at hstep <;> cases hstep
      rename_i hb
      obtain ⟨c', cells, hc', hr, ht, hcs⟩ := run_app_grow (ty := o.type) (n := 0) (c := 0) (base := none) (os := []) h0 hst hi hs hby hz0 hzs h1 hxt hd hsrc.len (by omega) (by simpa using hb.1) (by simpa using hb.2) (by simp [Builtin.firstCells]) hus'
      simp only [Nat.zero_add, List.nil_append, List.length_nil] at hr ht hcs hc'
      have hcs2 : cells.size = c' * sz := by
        rw [hcs, hul', ← Nat.add_mul]; congr 1; omega
      have hnew := hH.drew.new (.cells cells e) (.cells 0 false xs) ⟨w.heap.size, 0, cells.size⟩ rfl rfl (newblk_obR (w := w.drew) hH.base (hxu'.mono (Mu.le_set _ (hH.fresh _ _ (Nat.le_refl _)))) ht)
      refine fin (by rw [hxv]; exact hr) (.sl (Nat.le_refl _) hc' (by simp) fun _ => ⟨_, Mu.set_same _ _ _ _, rfl, fun _ => ?_⟩) hnew.1 ?_
      · simp [hcs2]
      · exact ⟨hnew.2.le, hnew.2.len, hnew.2.calm, hnew.2.blk, hnew.2.frame, hnew.2.size, hnew.2.os, hnew.2.tape, hnew.2.output, fun hm => Nat.le_trans (Nat.le_succ _) (hnew.2.drawn hm), hnew.2.im⟩
  · -- a slice
    rename_i b g p n sz' cl ex
    cases hxv : ρ x <;> rw [hxv] at hx <;> try (cases hx; done)
    split at hstep
    · cases hstep
    rename_i hsz'
    simp only [ne_eq, Decidable.not_not] at hsz'
    subst hsz'
    have hx0 := hx
    cases hx
    rename_i cc q hn hcc hex hh
    split at hstep
    · rename_i hm; cases hstep; subst hm
      have : us = [] := List.length_eq_zero_iff.1 (by rw [hul]; simp)
      subst this
      refine fin (u := .slice (some q) (n + 0) cc) (by rw [hxv]; exact run_app_in h0 hst hi hs h1 hxt hd hsrc.len (by omega) hus (by simp [storeCells])) ?_ hH (Ext.refl _ _ _)
      exact hx0
    rename_i hm
    split at hstep
    · -- in place
      rename_i hcl
      split at hstep
      · rename_i g' c0 hb
        split at hstep <;> cases hstep
        rename_i hc2
        obtain ⟨rfl, hlen⟩ := hc2
        obtain ⟨a, ha, rfl, hext⟩ := hh (by omega)
        obtain ⟨w', hr, h2, h3⟩ := write_set (P := P) (p := p + n * sz') hH hb ha hxu hone (by omega)
        refine fin (by rw [hxv]; exact run_app_in h0 hst hi hs h1 hxt hd hsrc.len (by omega) hus (by rw [addr_add _ _ rfl, Nat.add_assoc]; exact hr)) (.sl hcl hcc hex fun _ => ⟨a, ha, rfl, hext⟩) h2 h3
      · cases hstep
    rename_i hcl
    split at hstep
    · rename_i hb
      split at hstep
      · -- just so much room: a new array
        rename_i hext
        have hcap : cc = cl := hex hext
        subst hcap
        split at hstep
        · rename_i hn0; cases hstep; subst hn0
          obtain ⟨c', cells, hc', hr, ht, hcs⟩ := run_app_grow (ty := o.type) (n := 0) (c := cc) (base := some q) (os := []) h0 hst hi hs hby hz0 hzs h1 hxt hd hsrc.len (by omega) (by simpa using hb.1) (by simpa using hb.2) (by simp [Builtin.firstCells, loadCells, loadCellsFrom]) hus'
          simp only [Nat.zero_add, List.nil_append, List.length_nil] at hr ht hcs hc'
          have hcs2 : cells.size = c' * sz' := by rw [hcs, hul', ← Nat.add_mul]; congr 1; omega
          have hnew := hH.drew.new (.cells cells e) (.cells 0 false xs) ⟨w.heap.size, 0, cells.size⟩ rfl rfl (newblk_obR (w := w.drew) hH.base (hxu'.mono (Mu.le_set _ (hH.fresh _ _ (Nat.le_refl _)))) ht)
          refine fin (by rw [hxv]; exact hr) (.sl (Nat.le_refl _) hc' (by simp) fun _ => ⟨_, Mu.set_same _ _ _ _, rfl, fun _ => ?_⟩) hnew.1 ?_
          · simp [hcs2]
          · exact ⟨hnew.2.le, hnew.2.len, hnew.2.calm, hnew.2.blk, hnew.2.frame, hnew.2.size, hnew.2.os, hnew.2.tape, hnew.2.output, fun hm => Nat.le_trans (Nat.le_succ _) (hnew.2.drawn hm), hnew.2.im⟩
        · rename_i hn0
          split at hstep <;> cases hstep
          rename_i old hrd
          obtain ⟨ro, c0, hb0, hl0, rfl⟩ := rdSl_spec hrd
          obtain ⟨a, ha, hob⟩ := hH.ob b _ hb0 (by simp)
          obtain ⟨a', ha', rfl, _⟩ := hh (by omega)
          simp only [Ob.gen] at ha
          rw [ha] at ha'; cases ha'
          obtain ⟨os, hos, hor⟩ := run_cells (P := P) (w := w.drew) (obR.keep (w' := w.drew) hob (Mu.le_refl μ) rfl (Nat.le_refl _)) p (n * sz') hl0
          obtain ⟨c', cells, hc', hr, ht, hcs⟩ := run_app_grow (ty := o.type) (n := n) (c := cc) (base := some ⟨a.blk, a.off + p, none⟩) (os := os) h0 hst hi hs hby hz0 hzs h1 hxt hd hsrc.len (by omega) hb.1 hb.2 (by simp [Builtin.firstCells, hos]) hus'
          have hol : os.length = n * sz' := by rw [← hor.1]; simp; omega
          have hcs2 : cells.size = c' * sz' := by
            rw [hcs, hul', hol, ← Nat.add_mul, ← Nat.add_mul]; congr 1; omega
          have hnew := hH.drew.new (.cells cells e) (.cells 0 false ((c0.drop p).take (n * sz') ++ xs)) ⟨w.heap.size, 0, cells.size⟩ rfl rfl (newblk_obR (w := w.drew) (us := os ++ us') hH.base ((hor.append hxu').mono (Mu.le_set _ (hH.fresh _ _ (Nat.le_refl _)))) (by simpa using ht))
          refine fin (by rw [hxv]; exact hr) (.sl (Nat.le_refl _) hc' (by simp) fun _ => ⟨_, Mu.set_same _ _ _ _, rfl, fun _ => ?_⟩) hnew.1 ?_
          · simp [hcs2]
          · exact ⟨hnew.2.le, hnew.2.len, hnew.2.calm, hnew.2.blk, hnew.2.frame, hnew.2.size, hnew.2.os, hnew.2.tape, hnew.2.output, fun hm => Nat.le_trans (Nat.le_succ _) (hnew.2.drawn hm), hnew.2.im⟩
      · -- room unknown
        rename_i hext
        have hext : ex = false := by simpa using hext
        split at hstep
        · rename_i g' c0 hb0
          split at hstep <;> cases hstep
          rename_i hc2
          obtain ⟨rfl, rfl, hn0, hlen⟩ := hc2
          obtain ⟨a, ha, rfl, hx2⟩ := hh (by omega)
          have hx2 := hx2 hext
          have hnone : μ b (g' + 1) = none := by
            cases hg : μ b (g' + 1) with
            | none => rfl
            | some x => have := hH.gen b _ _ x hb0 (by simp) hg; simp only [Ob.gen] at this; omega
          by_cases hcap : n + m ≤ cc
          · have hmul : (n + m) * sz' ≤ cc * sz' := Nat.mul_le_mul_right _ hcap
            rw [Nat.add_mul] at hmul
            obtain ⟨w', hr, hw⟩ := write_at (P := P) (p := n * sz') hH hb0 ha hxu hone (by omega) 0 (.inr trivial)
            have hle := Mu.le_set (μ := μ) a hnone
            have hob' := wrote_obR (g1 := g' + 1) (c1 := c0 ++ xs) (ν := μ.set b (g' + 1) a) hH hb0 ha hle hxu hw (fun i v hv => by
              rw [List.getElem?_append] at hv
              by_cases hi : i < c0.length
              · rw [if_pos hi] at hv; rw [if_neg (by omega)]; exact hv
              · rw [if_neg hi] at hv
                have : i - c0.length < xs.length := (List.getElem?_eq_some_iff.1 hv).1
                rw [if_pos (by omega), hlen]; exact hv) (by simp; omega)
            obtain ⟨r1, r2⟩ := hH.repl hb0 ha hle (Mu.set_same _ _ _ _) (fun b' g2 hne => Mu.set_other _ _ (fun e => hne e.1)) (fun g2 x hx => by
              by_cases e : g2 = g' + 1
              · omega
              · rw [Mu.set_other _ _ (fun e' => e e'.2)] at hx
                have := hH.gen b _ g2 x hb0 (by simp) hx; simp only [Ob.gen] at this; omega) (.inl rfl) (fun k _ hk => hw.other k hk) (by rw [hw.size]; exact Nat.le_refl _) hw.os hw.tape hw.output hw.drawn hob' rfl
            refine fin (by rw [hxv]; exact run_app_in h0 hst hi hs h1 hxt hd hsrc.len hcap hus (by rw [addr_add _ _ rfl, Nat.add_zero]; exact hr)) (.sl (Nat.le_refl _) hcap (by simp) fun _ => ⟨a, Mu.set_same _ _ _ _, rfl, fun _ => ?_⟩) r1 r2
            omega
          · obtain ⟨a2, ha2, hob⟩ := hH.ob b _ hb0 (by simp)
            simp only [Ob.gen] at ha2
            rw [ha] at ha2; cases ha2
            obtain ⟨os, hos, hor⟩ := run_cells (P := P) (w := w.drew) (obR.keep (w' := w.drew) hob (Mu.le_refl μ) rfl (Nat.le_refl _)) 0 (n * sz') (by omega)
            obtain ⟨c', cells, hc', hr, ht, hcs⟩ := run_app_grow (ty := o.type) (n := n) (c := cc) (base := some ⟨a.blk, a.off + 0, none⟩) (os := os) h0 hst hi hs hby hz0 hzs h1 hxt hd hsrc.len hcap hb.1 hb.2 (by simpa [Builtin.firstCells] using hos) hus'
            have hor' : VRs μ c0 os := by
              have : (c0.drop 0).take (n * sz') = c0 := by rw [hlen]; simp
              rw [this] at hor; exact hor
            have hol : os.length = n * sz' := by rw [← hor'.1, hlen]
            have hcs2 : cells.size = c' * sz' := by
              rw [hcs, hul', hol, ← Nat.add_mul, ← Nat.add_mul]; congr 1; omega
            have hle := Mu.le_set (μ := μ) ⟨w.heap.size, 0, cells.size⟩ hnone
            obtain ⟨r1, r2⟩ := hH.repl (w' := w.drew.alloc (.cells cells e)) hb0 ha hle (Mu.set_same _ _ _ _) (fun b' g2 hne => Mu.set_other _ _ (fun e => hne e.1)) (fun g2 x hx => by
              by_cases e : g2 = g' + 1
              · omega
              · rw [Mu.set_other _ _ (fun e' => e e'.2)] at hx
                have := hH.gen b _ g2 x hb0 (by simp) hx; simp only [Ob.gen] at this; omega) (.inr (Nat.le_refl _)) (fun k hk _ => heap_alloc_old w.drew _ k hk) (by simp) rfl rfl rfl (Nat.le_succ _)
                (newblk_obR (w := w.drew) (us := os ++ us') hH.base ((hor'.append hxu').mono hle) (by simpa using ht)) rfl
            refine fin (by rw [hxv]; exact hr) (.sl (Nat.le_refl _) hc' (by simp) fun _ => ⟨_, Mu.set_same _ _ _ _, rfl, fun _ => ?_⟩) r1 r2
            simp [hcs2]
        · cases hstep
    · cases hstep
  · cases hstep

theorem xdoes_copy0 {c : Call} {st e : TypeId} {i : TypeInfo} {sz m n : Nat} {x y : Operand} (hop : o.op = .call c) (hc : c.callee = .builtin .copy) (hargs : c.args = #[x, y])
    (h0 : c.argTypes[0]? = some st) (hst : P.underlying st = some (.slice e)) (hi : P.info? e = some i) (hs : i.size = sz) (hH : HR B μ H w)
    (hx : (∃ q cc, ρ x = .slice q n cc)) (hlen : (Builtin.lenOf (ρ y)).run P w = .ok m w) (hsrc : ∃ us, (Builtin.firstCells sz 0 (ρ y)).run P w = .ok us w ∧ us.toList = []) (h : min m n = 0) : XDoes B P w ρ o μ H (.int .i64 0) H := by
  obtain ⟨cs, hrun⟩ := run_builtin (P := P) (w := w) (ρ := ρ) hop hc
  obtain ⟨q, cc, hxv⟩ := hx
  obtain ⟨us, hus, hu0⟩ := hsrc
  have hsize : (sizeOf e).run P w = .ok sz w := by rw [run_sizeOf w hi]; simp [Program.cellsOf, hi, hs]
  have hmin : Nat.min m n = 0 := h
  refine ⟨.int .i64 0, w, μ, .inl ?_, .int _ _, hH, Ext.refl _ _ _⟩
  rw [hrun, hargs]
  cases q with
  | none => simp [builtin, Builtin.copy_, h0, hxv, run_underlying hst, hlen, hsize, hmin, hus, goInt]
  | some q => simp [builtin, Builtin.copy_, h0, hxv, run_underlying hst, hlen, hsize, hmin, hus, hu0, goInt, storeCells]
theorem xdoes_copy {c : Call} {st e : TypeId} {i : TypeInfo} {sz m n b g p cl : Nat} {ex : Bool} {x y : Operand} {xs c0 : List AV} {us : List Value} (hop : o.op = .call c) (hc : c.callee = .builtin .copy) (hargs : c.args = #[x, y])
    (h0 : c.argTypes[0]? = some st) (hst : P.underlying st = some (.slice e)) (hi : P.info? e = some i) (hs : i.size = sz) (hH : HR B μ H w) (hx : VR μ (.sl b g p n sz cl ex) (ρ x)) (hb : H[b]? = some (.cells g false c0))
    (hlen : (Builtin.lenOf (ρ y)).run P w = .ok m w) (hsrc : (Builtin.firstCells sz (min m n) (ρ y)).run P w = .ok us.toArray w) (hxu : VRs μ xs us) (h1 : xs.all (·.one) = true) (hpos : min m n ≠ 0) (hl : p + xs.length ≤ c0.length) :
    XDoes B P w ρ o μ H (.int .i64 (min m n : Nat)) (H.set b (.cells g false (setAt c0 p xs))) := by
  obtain ⟨cs, hrun⟩ := run_builtin (P := P) (w := w) (ρ := ρ) hop hc
  have hsize : (sizeOf e).run P w = .ok sz w := by rw [run_sizeOf w hi]; simp [Program.cellsOf, hi, hs]
  cases hxv : ρ x <;> rw [hxv] at hx <;> cases hx
  rename_i cc q hn hcc hex hh
  obtain ⟨a, ha, rfl, _⟩ := hh (by omega)
  obtain ⟨w', hr, h2, h3⟩ := write_set (P := P) (p := p) hH hb ha hxu h1 hl
  have hmin : Nat.min m n = min m n := rfl
  refine ⟨.int .i64 (min m n : Nat), w', μ, .inl ?_, .int _ _, h2, h3⟩
  rw [hrun, hargs]
  simp only [builtin, Builtin.copy_, h0, List.map_toArray, List.map_cons, List.map_nil, hxv, Sem.run_bind, run_underlying hst, Result.andThen_ok, hlen, hsize, hmin, hsrc, Sem.run_pure, List.getElem?_toArray, List.getElem?_cons_zero, List.getElem?_cons_succ]
  simp [hr, goInt]

theorem repA_one {z : List AV} (h : z.all (·.one) = true) : ∀ n, (repA z n).all (·.one) = true
  | 0 => rfl
  | n + 1 => by rw [repA, List.all_append, h, repA_one h n]; rfl
theorem xdoes_clear {c : Call} {st e : TypeId} {sz n b g p cl : Nat} {ex : Bool} {x : Operand} {z c0 : List AV} (hop : o.op = .call c) (hc : c.callee = .builtin .clear) (hargs : c.args.toList = [x])
    (h0 : c.argTypes[0]? = some st) (hst : P.underlying st = some (.slice e)) (hz : zeroIs P e z = true) (hzl : z.length = sz) (hsz : 0 < sz) (hH : HR B μ H w) (hx : VR μ (.sl b g p n sz cl ex) (ρ x)) (hb : H[b]? = some (.cells g false c0))
    (h1 : z.all (·.one) = true) (hpos : n ≠ 0) (hl : p + n * sz ≤ c0.length) : XDoes B P w ρ o μ H (.tup []) (H.set b (.cells g false (setAt c0 p (repA z n)))) := by
  obtain ⟨cs, hrun⟩ := run_builtin (P := P) (w := w) (ρ := ρ) hop hc
  obtain ⟨i, zv, hi, hzv, hzr, hzs⟩ := zeroIs_spec (w := w) hz μ
  have hargs' : c.args = #[x] := by rw [← Array.toArray_toList (xs := c.args), hargs]
  cases hxv : ρ x <;> rw [hxv] at hx <;> cases hx
  rename_i cc q hn hcc hex hh
  obtain ⟨a, ha, rfl, _⟩ := hh (by omega)
  have hzl2 : zv.cells.size = z.length := by have := hzs.1; simp at this; omega
  have hrep := rep_zero hzs (by omega) n
  obtain ⟨w', hr, h2, h3⟩ := write_set (P := P) (p := p) hH hb ha hrep (repA_one h1 n) (by rw [repA_len, hzl]; exact hl)
  refine ⟨.tuple #[], w', μ, .inl ?_, .tup' (by simpa using VRs.nil μ), h2, h3⟩
  rw [hrun, hargs']
  have hzc : Builtin.zeroCells zv.cells n = (Array.range (n * z.length)).map fun i => zv.cells[i % zv.cells.size]! := by
    unfold Builtin.zeroCells; rw [hzl2]
  have hn0 : n = n - 1 + 1 := by omega
  rw [hn0] at hxv
  simp only [builtin, Builtin.clear_, h0, List.map_toArray, List.map_cons, List.map_nil, hxv, Sem.run_bind, run_underlying hst, Result.andThen_ok, Sem.run_pure, List.getElem?_toArray, List.getElem?_cons_zero, hzr]
  rw [← hn0, hzc, hr]
  simp
theorem xdoes_clear0 {c : Call} {st e : TypeId} {x : Operand} (hop : o.op = .call c) (hc : c.callee = .builtin .clear) (hargs : c.args.toList = [x])
    (h0 : c.argTypes[0]? = some st) (hst : P.underlying st = some (.slice e)) (hH : HR B μ H w) (hx : ρ x = .slice none 0 0 ∨ ∃ q cc, ρ x = .slice q 0 cc) : XDoes B P w ρ o μ H (.tup []) H := by
  obtain ⟨cs, hrun⟩ := run_builtin (P := P) (w := w) (ρ := ρ) hop hc
  have hargs' : c.args = #[x] := by rw [← Array.toArray_toList (xs := c.args), hargs]
  refine ⟨.tuple #[], w, μ, .inl ?_, .tup' (by simpa using VRs.nil μ), hH, Ext.refl _ _ _⟩
  rw [hrun, hargs']
  rcases hx with hx | ⟨q, cc, hx⟩
  · simp [builtin, Builtin.clear_, h0, hx, run_underlying hst]
  · cases q <;> simp [builtin, Builtin.clear_, h0, hx, run_underlying hst]

set_option maxHeartbeats 1000000 in
/-- EVERY OPERATION THAT WRITES DOES AS THE MODEL'S. -/
theorem xsim {xo : XOp} {vs : List AV} {v : AV} {H1 : Heap} (hH : HR B μ H w) (hchk : chkX P xo o.op = true) (hv : VRs μ vs ((xargs o.op).map ρ)) (hs : xstep xo vs H = some (v, H1)) : XDoes B P w ρ o μ H v H1 := by
  cases hop : o.op <;> rw [hop] at hchk hv <;> cases xo <;> simp only [chkX] at hchk <;> try (cases hchk; done)
  all_goals simp only [xargs, List.map_cons, List.map_nil] at hv
  all_goals simp only [xstep] at hs
  case store.store t x y n =>
    split at hchk
    · rename_i i hi
      split at hs
      · split at hs
        · rename_i hb
          split at hs <;> cases hs
          rename_i hc
          obtain ⟨rfl, h1, h2, h3⟩ := hc
          exact xdoes_store hop hi (by simpa using hchk) hH hv.head hv.tail.head hb h1 h2 h3
        · cases hs
      · cases hs
    · cases hchk
  case call.app c sz bytes =>
    simp only [Bool.and_eq_true, beq_iff_eq] at hchk
    obtain ⟨⟨⟨h1, h2⟩, h3⟩, h4⟩ := hchk
    split at h1
    · rename_i hcal
      obtain ⟨x, y, hargs⟩ := call2 h2
      rw [hargs] at hv
      simp only [List.map_cons, List.map_nil] at hv
      split at h3
      · rename_i st hst
        split at h4
        · rename_i xt hxt
          split at h4
          · rename_i e' he'
            unfold elemIs at h3
            split at h3
            · rename_i e he
              split at h3
              · rename_i i hi
                simp only [Bool.and_eq_true, beq_iff_eq, decide_eq_true_eq] at h3
                obtain ⟨⟨h5, h6⟩, h7, h8⟩ := h3
                split at h8
                · rename_i zv hz
                  split at hs
                  · rename_i s xv
                    split at hs
                    · rename_i m xs hsrc
                      obtain ⟨r1, r2, r3⟩ := run_src (P := P) hH hv.tail.head hsrc
                      obtain ⟨q1, q2, q3⟩ := run_src (P := P) hH.drew hv.tail.head hsrc
                      obtain ⟨us, hu1, hu2⟩ := r3 m (Nat.le_refl _)
                      obtain ⟨us', hu1', hu2'⟩ := q3 m (Nat.le_refl _)
                      rw [List.take_of_length_le (by omega)] at hu2 hu2'
                      exact xdoes_app hop hcal hargs hst he hi h5 h6 h7 hz (by simpa using h8) hxt he' (by simp) hH hv.head r1 ⟨r2, us, hu1, hu2⟩ ⟨q2, us', hu1', hu2'⟩ hs
                    · cases hs
                  · cases hs
                · cases h8
              · cases h3
            · cases h3
          · cases h4
        · cases h4
      · cases h3
    · cases h1
  case call.appT c =>
    simp only [Bool.and_eq_true, beq_iff_eq] at hchk
    obtain ⟨⟨⟨h1, h2⟩, h3⟩, h4⟩ := hchk
    split at h1
    · rename_i hcal
      obtain ⟨x, y, hargs⟩ := call2 h2
      rw [hargs] at hv
      simp only [List.map_cons, List.map_nil] at hv
      split at h3
      · rename_i st hst
        split at h4
        · rename_i xt hxt
          split at h4
          · rename_i he'
            unfold elemIs at h3
            split at h3
            · rename_i e he
              split at h3
              · rename_i i hi
                simp only [Bool.and_eq_true, beq_iff_eq, decide_eq_true_eq] at h3
                obtain ⟨⟨h5, h6⟩, h7, h8⟩ := h3
                split at h8
                · rename_i zv hz
                  split at hs
                  · rename_i s xv
                    have hy := hv.tail.head
                    cases hyv : ρ y <;> rw [hyv] at hy <;> cases hy
                    obtain ⟨r1, r2, r3⟩ := run_srcT (P := P) (μ := μ) (w := w) xv
                    obtain ⟨q1, q2, q3⟩ := run_srcT (P := P) (μ := μ) (w := w.drew) xv
                    obtain ⟨us, hu1, hu2⟩ := r3 xv.size (Nat.le_refl _)
                    obtain ⟨us', hu1', hu2'⟩ := q3 xv.size (Nat.le_refl _)
                    rw [List.take_of_length_le (by omega)] at hu2 hu2'
                    exact xdoes_app hop hcal hargs hst he hi h5 (by omega) h7 hz (by simpa using h8) hxt he' (by simp) hH hv.head (by omega) ⟨by rw [hyv]; exact r2, us, by rw [hyv]; exact hu1, hu2⟩ ⟨by rw [hyv]; exact q2, us', by rw [hyv]; exact hu1', hu2'⟩ hs
                  · cases hs
                · cases h8
              · cases h3
            · cases h3
          · cases h4
        · cases h4
      · cases h3
    · cases h1
  case call.copy c sz =>
    simp only [Bool.and_eq_true, beq_iff_eq] at hchk
    obtain ⟨⟨h1, h2⟩, h3⟩ := hchk
    split at h1
    · rename_i hcal
      obtain ⟨x, y, hargs⟩ := call2 h2
      rw [hargs] at hv
      simp only [List.map_cons, List.map_nil] at hv
      split at h3
      · rename_i st hst
        unfold elemIs at h3
        split at h3
        · rename_i e he
          split at h3
          · rename_i i hi
            simp only [Bool.and_eq_true, beq_iff_eq, decide_eq_true_eq, Bool.and_true] at h3
            split at hs
            · rename_i xv
              split at hs <;> cases hs
              rename_i mxs hsrc
              obtain ⟨m, xs⟩ := mxs
              obtain ⟨r1, r2, r3⟩ := run_src (P := P) hH hv.tail.head hsrc
              obtain ⟨us, hu1, hu2⟩ := r3 0 (Nat.zero_le _)
              have hx := hv.head
              cases hxv : ρ x <;> rw [hxv] at hx <;> cases hx
              exact xdoes_copy0 hop hcal hargs hst he hi h3.1 hH ⟨none, 0, hxv⟩ r2 ⟨_, hu1, by have := hu2.1; simp at this; simpa using this.symm⟩ (by omega)
            · rename_i b g p n sz' cl ex xv
              split at hs
              · rename_i m xs hsrc
                obtain ⟨r1, r2, r3⟩ := run_src (P := P) hH hv.tail.head hsrc
                split at hs
                · rename_i hsz; subst hsz
                  split at hs
                  · rename_i hmin; cases hs
                    obtain ⟨us, hu1, hu2⟩ := r3 0 (Nat.zero_le _)
                    have hx := hv.head
                    cases hxv : ρ x <;> rw [hxv] at hx <;> cases hx
                    exact xdoes_copy0 hop hcal hargs hst he hi h3.1 hH ⟨_, _, hxv⟩ r2 ⟨_, hu1, by have := hu2.1; simp at this; simpa using this.symm⟩ hmin
                  · rename_i hmin
                    split at hs
                    · rename_i hb
                      split at hs <;> cases hs
                      rename_i hc
                      obtain ⟨rfl, hc1, hc2⟩ := hc
                      obtain ⟨us, hu1, hu2⟩ := r3 (min m n) (Nat.min_le_left _ _)
                      exact xdoes_copy hop hcal hargs hst he hi h3.1 hH hv.head hb r2 hu1 hu2 (by rw [List.all_eq_true] at hc2 ⊢; exact fun z hz => hc2 z (List.mem_of_mem_take hz)) hmin hc1
                    · cases hs
                · cases hs
              · cases hs
            · cases hs
          · cases h3
        · cases h3
      · cases h3
    · cases h1
  case call.copyT c =>
    simp only [Bool.and_eq_true, beq_iff_eq] at hchk
    obtain ⟨⟨h1, h2⟩, h3⟩ := hchk
    split at h1
    · rename_i hcal
      obtain ⟨x, y, hargs⟩ := call2 h2
      rw [hargs] at hv
      simp only [List.map_cons, List.map_nil] at hv
      split at h3
      · rename_i st hst
        unfold elemIs at h3
        split at h3
        · rename_i e he
          split at h3
          · rename_i i hi
            simp only [Bool.and_eq_true, beq_iff_eq, decide_eq_true_eq, Bool.and_true] at h3
            split at hs
            · rename_i b g p n sz' cl ex xv
              have hy := hv.tail.head
              cases hyv : ρ y <;> rw [hyv] at hy <;> cases hy
              obtain ⟨r1, r2, r3⟩ := run_srcT (P := P) (μ := μ) (w := w) xv
              split at hs
              · rename_i hsz; subst hsz
                split at hs
                · rename_i hmin; cases hs
                  obtain ⟨us, hu1, hu2⟩ := r3 0 (Nat.zero_le _)
                  have hx := hv.head
                  cases hxv : ρ x <;> rw [hxv] at hx <;> cases hx
                  exact xdoes_copy0 hop hcal hargs hst he hi h3.1 hH ⟨_, _, hxv⟩ (by rw [hyv]; exact r2) ⟨_, by rw [hyv]; exact hu1, by have := hu2.1; simp at this; simpa using this.symm⟩ hmin
                · rename_i hmin
                  split at hs
                  · rename_i hb
                    split at hs <;> cases hs
                    rename_i hc
                    obtain ⟨rfl, hc1⟩ := hc
                    obtain ⟨us, hu1, hu2⟩ := r3 (min xv.size n) (Nat.min_le_left _ _)
                    exact xdoes_copy hop hcal hargs hst he hi h3.1 hH hv.head hb (by rw [hyv]; exact r2) (by rw [hyv]; exact hu1) hu2 (by
                      rw [List.all_eq_true]
                      intro z hz
                      have hz2 := List.mem_of_mem_take hz
                      simp only [strCells, List.mem_map] at hz2
                      obtain ⟨b, _, rfl⟩ := hz2; rfl) hmin hc1
                  · cases hs
              · cases hs
            · cases hs
          · cases h3
        · cases h3
      · cases h3
    · cases h1
  case call.clear c sz z =>
    simp only [Bool.and_eq_true, beq_iff_eq, decide_eq_true_eq] at hchk
    obtain ⟨⟨⟨⟨h1, h2⟩, h3⟩, h4⟩, h5⟩ := hchk
    split at h1
    · rename_i hcal
      obtain ⟨x, hx⟩ : ∃ x, c.args.toList = [x] := by
        have : c.args.toList.length = 1 := by simpa using h2
        cases h : c.args.toList with
        | nil => rw [h] at this; cases this
        | cons x l => cases l with
          | nil => exact ⟨x, rfl⟩
          | cons y l => rw [h] at this; simp at this
      rw [hx] at hv
      simp only [List.map_cons, List.map_nil] at hv
      split at h5
      · rename_i st hst
        split at h5
        · rename_i e he
          split at hs
          · cases hs
            have hh := hv.head
            cases hxv : ρ x <;> rw [hxv] at hh <;> cases hh
            exact xdoes_clear0 hop hcal hx hst he hH (.inl hxv)
          · split at hs
            · rename_i hn0; cases hs; subst hn0
              have hh := hv.head
              cases hxv : ρ x <;> rw [hxv] at hh <;> cases hh
              exact xdoes_clear0 hop hcal hx hst he hH (.inr ⟨_, _, hxv⟩)
            · rename_i hn0
              split at hs
              · rename_i hb
                split at hs <;> cases hs
                rename_i hc2
                obtain ⟨rfl, rfl, k1, k2⟩ := hc2
                exact xdoes_clear hop hcal hx hst he h5 h3 h4 hH hv.head hb k1 hn0 k2
              · cases hs
          · cases hs
        · cases h5
      · cases h5
    · cases h1
end Go.Ai
/- Values are read out of the memory: a value that names objects is made one that names none. -/
namespace Go.Ai
set_option linter.unusedSectionVars false
variable [DrMode]
set_option linter.unusedVariables false
set_option linter.unusedSimpArgs false

def AV.scal0 : AV → Bool
  | .bool _ | .int .. | .str _ | .nilp | .nils | .nilm | .nilf | .nili => true
  | _ => false
def AV.scal : AV → Bool
  | .tup xs => xs.all AV.scal0
  | v => v.scal0
theorem scal0_any {μ ν : Mu} {v : AV} {u : Value} (hc : v.scal0 = true) (h : VR μ v u) : VR ν v u := by
  cases h <;> simp only [AV.scal0] at hc <;> first | (cases hc; done) | (constructor; done)
theorem scal_any {μ ν : Mu} {v : AV} {u : Value} (hc : v.scal = true) (h : VR μ v u) : VR ν v u := by
  by_cases ht : ∃ xs, v = .tup xs
  · obtain ⟨xs, rfl⟩ := ht
    cases h with
    | tup h1 h2 =>
      simp only [AV.scal] at hc
      exact .tup h1 fun i x y hx hy => scal0_any (List.all_eq_true.1 hc x (List.mem_of_getElem? hx)) (h2 i x y hx hy)
  · have : v.scal = v.scal0 := by
      cases v <;> first | rfl | exact absurd ⟨_, rfl⟩ ht
    rw [this] at hc
    exact scal0_any hc h

/-- The value, its slices read out of objects that change no more: one layer. -/
def viewOne (H : Heap) (fv : AV → Option AV) (fl : List AV → Option (List AV)) : AV → Option AV
  | .agg xs => (fl xs).map .agg
  | .tup xs => (fl xs).map .tup
  | .iface t v => (fv v).map (.iface t)
  | .fn f x y => match fl x, fl y with
    | some x', some y' => some (.fn f x' y')
    | _, _ => none
  | .sl b g o n sz _ _ => if n = 0 then some (.vs 0 sz []) else match H[b]? with
    | some (.cells g' true c) => if g' = g ∧ o + n * sz ≤ c.length then (fl ((c.drop o).take (n * sz))).map (.vs n sz) else none
    | _ => none
  | _ => none
mutual
def viewV (H : Heap) : Nat → AV → Option AV
  | 0, _ => none
  | k + 1, v => if v.closed = true then some v else viewOne H (viewV H k) (viewL H k) v
def viewL (H : Heap) : Nat → List AV → Option (List AV)
  | 0, _ => none
  | _ + 1, [] => some []
  | k + 1, x :: xs => if AV.closeds (x :: xs) = true then some (x :: xs) else match viewV H k x, viewL H (k + 1) xs with
    | some x', some xs' => some (x' :: xs')
    | _, _ => none
end
/-- The objects that are read then: one layer. -/
def reachOne (H : Heap) (fv : AV → List Nat) (fl : List AV → List Nat) : AV → List Nat
  | .agg xs => fl xs
  | .tup xs => fl xs
  | .iface _ v => fv v
  | .fn _ x y => fl x ++ fl y
  | .sl b _ o n sz _ _ => if n = 0 then [] else b :: (match H[b]? with
    | some (.cells _ _ c) => fl ((c.drop o).take (n * sz))
    | _ => [])
  | _ => []
mutual
def reachV (H : Heap) : Nat → AV → List Nat
  | 0, _ => []
  | k + 1, v => if v.closed = true then [] else reachOne H (reachV H k) (reachL H k) v
def reachL (H : Heap) : Nat → List AV → List Nat
  | 0, _ => []
  | _ + 1, [] => []
  | k + 1, x :: xs => if AV.closeds (x :: xs) = true then [] else reachV H k x ++ reachL H (k + 1) xs
end
def frzH : List Nat → Heap → Heap
  | [], H => H
  | b :: bs, H => frzH bs (match H[b]? with
    | some (.cells g false c) => H.set b (.cells g true c)
    | _ => H)
def fuelV : Nat := 12
/-! The same, as the kernel can reckon it. -/
def viewLs (f : AV → Option AV) : List AV → Option (List AV)
  | [] => some []
  | x :: xs => if AV.closeds (x :: xs) = true then some (x :: xs) else match f x, viewLs f xs with
    | some x', some xs' => some (x' :: xs')
    | _, _ => none
def viewV2 (H : Heap) : Nat → AV → Option AV
  | 0, _ => none
  | 1, v => if v.closed = true then some v else viewOne H (fun _ => none) (fun _ => none) v
  | k + 2, v => if v.closed = true then some v else viewOne H (viewV2 H (k + 1)) (viewLs (viewV2 H k)) v
def reachLs (f : AV → List Nat) : List AV → List Nat
  | [] => []
  | x :: xs => if AV.closeds (x :: xs) = true then [] else f x ++ reachLs f xs
def reachV2 (H : Heap) : Nat → AV → List Nat
  | 0, _ => []
  | 1, v => if v.closed = true then [] else reachOne H (fun _ => []) (fun _ => []) v
  | k + 2, v => if v.closed = true then [] else reachOne H (reachV2 H (k + 1)) (reachLs (reachV2 H k)) v
theorem viewL_ls (H : Heap) (k : Nat) : ∀ xs, viewL H (k + 1) xs = viewLs (viewV H k) xs
  | [] => by simp only [viewL, viewLs]
  | x :: xs => by simp only [viewL, viewLs, viewL_ls H k xs]
theorem reachL_ls (H : Heap) (k : Nat) : ∀ xs, reachL H (k + 1) xs = reachLs (reachV H k) xs
  | [] => by simp only [reachL, reachLs]
  | x :: xs => by simp only [reachL, reachLs, reachL_ls H k xs]
theorem viewV_2 (H : Heap) : ∀ k, viewV H k = viewV2 H k ∧ viewV H (k + 1) = viewV2 H (k + 1)
  | 0 => by
    have e0 : viewV H 0 = viewV2 H 0 := by funext v; simp only [viewV, viewV2]
    refine ⟨e0, ?_⟩
    funext v
    have h1 : viewV H 0 = fun _ => none := by funext v; simp only [viewV]
    have h2 : viewL H 0 = fun _ => none := by funext v; simp only [viewL]
    simp only [viewV, viewV2, h1, h2]
  | k + 1 => by
    obtain ⟨h1, h2⟩ := viewV_2 H k
    refine ⟨h2, ?_⟩
    funext v
    have h3 : viewL H (k + 1) = viewLs (viewV2 H k) := by funext xs; rw [viewL_ls, h1]
    simp only [viewV, viewV2, h2, h3]
theorem reachV_2 (H : Heap) : ∀ k, reachV H k = reachV2 H k ∧ reachV H (k + 1) = reachV2 H (k + 1)
  | 0 => by
    have e0 : reachV H 0 = reachV2 H 0 := by funext v; simp only [reachV, reachV2]
    refine ⟨e0, ?_⟩
    funext v
    have h1 : reachV H 0 = fun _ => [] := by funext v; simp only [reachV]
    have h2 : reachL H 0 = fun _ => [] := by funext v; simp only [reachL]
    simp only [reachV, reachV2, h1, h2]
  | k + 1 => by
    obtain ⟨h1, h2⟩ := reachV_2 H k
    refine ⟨h2, ?_⟩
    funext v
    have h3 : reachL H (k + 1) = reachLs (reachV2 H k) := by funext xs; rw [reachL_ls, h1]
    simp only [reachV, reachV2, h2, h3]
/-- Arguments as values, and the memory behind it: what was read is written no more. -/
def viewA (H : Heap) (vs : List AV) : Option (List AV × Heap) :=
  let F := frzH (reachLs (reachV2 H 11) vs) H
  (viewLs (viewV2 F 11) vs).map fun vs' => (vs', F)
theorem viewA_def (H : Heap) (vs : List AV) : viewA H vs = (viewL (frzH (reachL H fuelV vs) H) fuelV vs).map fun vs' => (vs', frzH (reachL H fuelV vs) H) := by
  have e1 : reachL H fuelV vs = reachLs (reachV2 H 11) vs := by rw [show fuelV = 11 + 1 from rfl, reachL_ls, (reachV_2 H 11).1]
  have e2 : ∀ F, viewL F fuelV vs = viewLs (viewV2 F 11) vs := fun F => by rw [show fuelV = 11 + 1 from rfl, viewL_ls, (viewV_2 F 11).1]
  rw [e1, e2]; rfl
/-- An answer as a value. -/
def viewR (H : Heap) (v : AV) : Option AV := viewV2 (frzH (reachV2 H fuelV v) H) fuelV v
theorem viewR_def (H : Heap) (v : AV) : viewR H v = viewV (frzH (reachV H fuelV v) H) fuelV v := by
  rw [(reachV_2 H fuelV).1, (viewV_2 _ fuelV).1]; rfl

variable {μ : Mu} {w : World} {B : Nat} {H : Heap}
theorem frzH_sound : ∀ (bs : List Nat) {μ : Mu} {H : Heap}, HR B μ H w → ∃ ν : Mu, HR B ν (frzH bs H) w ∧ Ext H (frzH bs H) μ ν w w
  | [], μ, H, h => ⟨μ, h, Ext.refl _ _ _⟩
  | b :: bs, μ, H, h => by
    simp only [frzH]
    split
    · rename_i g c hb
      obtain ⟨ν, h1, h2⟩ := h.freeze hb
      obtain ⟨ρ, k1, k2⟩ := frzH_sound bs h1
      exact ⟨ρ, k1, h2.trans k2⟩
    · exact frzH_sound bs h
theorem frzH_len : ∀ (bs : List Nat) (H : Heap), (frzH bs H).length = H.length
  | [], H => rfl
  | b :: bs, H => by
    simp only [frzH]
    rw [frzH_len bs]
    split <;> simp
mutual
theorem viewV_sound (h : HR B μ H w) : ∀ (k : Nat) (v v' : AV) (u : Value), viewV H k v = some v' → VR μ v u → VR μ v' u ∧ v'.closed = true
  | 0, v, v', u, e, hv => by simp [viewV] at e
  | k + 1, v, v', u, e, hv => by
    simp only [viewV] at e
    by_cases hcl : v.closed = true
    · rw [if_pos hcl] at e; cases e; exact ⟨hv, hcl⟩
    rw [if_neg hcl] at e
    cases v <;> simp only [viewOne] at e
    case agg xs =>
      obtain ⟨xs', hx, rfl⟩ := Option.map_eq_some_iff.1 e
      cases hv with
      | agg h1 h2 =>
        obtain ⟨k1, k2⟩ := viewL_sound h k xs xs' _ hx ⟨h1, h2⟩
        exact ⟨.agg k1.1 k1.2, by simpa [AV.closed] using k2⟩
    case tup xs =>
      obtain ⟨xs', hx, rfl⟩ := Option.map_eq_some_iff.1 e
      cases hv with
      | tup h1 h2 =>
        obtain ⟨k1, k2⟩ := viewL_sound h k xs xs' _ hx ⟨h1, h2⟩
        exact ⟨.tup k1.1 k1.2, by simpa [AV.closed] using k2⟩
    case iface t v =>
      obtain ⟨x, hx, rfl⟩ := Option.map_eq_some_iff.1 e
      cases hv with
      | iface h1 =>
        obtain ⟨k1, k2⟩ := viewV_sound h k v x _ hx h1
        exact ⟨.iface k1, by simpa [AV.closed] using k2⟩
    case fn f x y =>
      split at e
      · rename_i x' y' hx hy
        cases e
        cases hv with
        | fn h1 h2 h3 h4 =>
          obtain ⟨k1, k2⟩ := viewL_sound h k x x' _ hx ⟨h1, h2⟩
          obtain ⟨m1, m2⟩ := viewL_sound h k y y' _ hy ⟨h3, h4⟩
          exact ⟨.fn k1.1 k1.2 m1.1 m1.2, by simp [AV.closed, k2, m2]⟩
      · cases e
    case sl b g o n sz cl ex =>
      split at e
      · rename_i h0
        subst h0
        cases e
        cases hv with
        | sl hn hc he hh => exact ⟨.vs (k := 0) (off := 0) (ys := []) (by omega) (by simp) (fun h => by simp at h) rfl (fun i x y h => by simp at h) (fun i y h => by simp at h) rfl, rfl⟩
      · rename_i h0
        split at e
        · rename_i g' c hb
          split at e
          · rename_i hc
            obtain ⟨rfl, hle⟩ := hc
            obtain ⟨xs', hx, rfl⟩ := Option.map_eq_some_iff.1 e
            obtain ⟨a, ha, hob⟩ := h.ob b _ hb (by simp)
            simp only [Ob.gen] at ha
            cases hv with
            | sl hn hc he hh =>
              obtain ⟨a', ha', hp, _⟩ := hh (by omega)
              rw [ha] at ha'; cases ha'
              have hcell : ∀ i, i < n * sz → ∃ u, μ.im a.blk (a.off + (o + i)) = some u ∧ VR μ (c.getD (o + i) .un) u := by
                intro i hi
                obtain ⟨u, hu, hr⟩ := hob.2.2.1 (o + i) (c[o + i]'(by omega)) (List.getElem?_eq_getElem (by omega))
                obtain ⟨u', hu'⟩ := hob.2.2.2.1 rfl (o + i) (by omega)
                have := (h.im _ _ _ hu').2
                rw [this] at hu; cases hu
                exact ⟨_, hu', by simpa [List.getD_eq_getElem?_getD, List.getElem?_eq_getElem (show o + i < c.length by omega)] using hr⟩
              let ys : List Value := (List.range (n * sz)).map fun i => (μ.im a.blk (a.off + (o + i))).getD (.tuple #[])
              have hys : ∀ (i : Nat) y, ys[i]? = some y → i < n * sz ∧ μ.im a.blk (a.off + (o + i)) = some y := by
                intro i y hy
                have hi : i < n * sz := by
                  have := (List.getElem?_eq_some_iff.1 hy).1
                  simpa [ys] using this
                obtain ⟨u, hu, _⟩ := hcell i hi
                simp [ys, hi, hu] at hy
                subst hy
                exact ⟨hi, hu⟩
              have hV : VRs μ ((c.drop o).take (n * sz)) ys := by
                refine ⟨by simp [ys]; omega, fun i x y hx hy => ?_⟩
                obtain ⟨hi, hu⟩ := hys i y hy
                obtain ⟨u, hu', hr⟩ := hcell i hi
                rw [hu] at hu'; cases hu'
                rw [List.getElem?_take, if_pos hi, List.getElem?_drop] at hx
                rw [List.getD_eq_getElem?_getD, hx] at hr
                exact hr
              obtain ⟨k1, k2⟩ := viewL_sound h k _ xs' ys hx hV
              refine ⟨.vs (k := a.blk) (off := a.off + o) (ys := ys) (by omega) (by rw [k1.1]; simp [ys]) (fun _ => hp) k1.1 k1.2 (fun i y hy => ?_) k2, by simpa [AV.closed] using k2⟩
              rw [Nat.add_assoc]; exact (hys i y hy).2
          · cases e
        · cases e
    all_goals (cases e; done)
theorem viewL_sound (h : HR B μ H w) : ∀ (k : Nat) (vs vs' : List AV) (us : List Value), viewL H k vs = some vs' → VRs μ vs us → VRs μ vs' us ∧ AV.closeds vs' = true
  | 0, vs, vs', us, e, hv => by simp [viewL] at e
  | k + 1, [], vs', us, e, hv => by simp [viewL] at e; subst e; exact ⟨hv, rfl⟩
  | k + 1, x :: xs, vs', us, e, hv => by
    simp only [viewL] at e
    by_cases hcl : AV.closeds (x :: xs) = true
    · rw [if_pos hcl] at e; cases e; exact ⟨hv, hcl⟩
    rw [if_neg hcl] at e
    split at e
    · rename_i x' xs' hx hxs
      cases e
      obtain ⟨u, t, rfl, h1, h2⟩ := hv.cases_cons
      obtain ⟨k1, k2⟩ := viewV_sound h k x x' u hx h1
      obtain ⟨m1, m2⟩ := viewL_sound h (k + 1) xs xs' t hxs h2
      exact ⟨.cons k1 m1, by simp [AV.closeds, k2, m2]⟩
    · cases e
end
/-- Ahead of a call that is made with values alone. -/
theorem HR.bare (h : HR B μ H w) : HR B ⟨fun _ _ => none, μ.im⟩ [] w :=
  ⟨fun b o hb => by simp at hb, fun b b' o o' a a' hb => by simp at hb, fun b o g a hb => by simp at hb, fun _ _ _ => rfl, h.base, h.im, fun b o a k j u hb => by simp at hb⟩
/-- Behind a call that was made with values alone, all is as it was. -/
theorem HR.after {H1 : Heap} {μ' ν : Mu} {w' : World} (h : HR B μ H w) (hx : Ext [] H1 μ' ν w w') : HR B μ H w' ∧ Ext H H μ μ w w' := by
  have hk : ∀ k, k < w.heap.size → w'.heap[k]? = w.heap[k]? := fun k hk => hx.frame k hk fun b o a hb => by simp at hb
  refine ⟨⟨fun b o hb hd => ?_, h.sep, h.gen, h.fresh, Nat.le_trans h.base hx.size, fun k o u hu => ?_, h.imsep⟩, ⟨Mu.le_refl μ, Nat.le_refl _, fun b o hb hr => ⟨hb, fun _ => rfl⟩, fun b o a hb hr ha => .inr ⟨o, a, hb, hr, fun h => h, ha, rfl⟩, fun k hk' _ => hk k hk', hx.size, hx.os, hx.tape, hx.output, hx.drawn, fun _ _ _ h => .inl h⟩⟩
  · obtain ⟨a, ha, hr⟩ := h.ob b o hb hd
    exact ⟨a, ha, hr.keep (Mu.le_refl μ) (hk _ (hr.lt hd)) hx.size⟩
  · obtain ⟨h1, h2⟩ := h.im k o u hu
    exact ⟨Nat.lt_of_lt_of_le h1 hx.size, by rw [cell?_same (hk k h1)]; exact h2⟩
theorem HR.afterI {H1 : Heap} {ν : Mu} {w' : World} (h : HR B μ H w) (h1 : HR B ν H1 w') (hx : Ext [] H1 ⟨fun _ _ => none, μ.im⟩ ν w w') : HR B ⟨μ.pl, ν.im⟩ H w' ∧ Ext H H μ ⟨μ.pl, ν.im⟩ w w' := by
  obtain ⟨k1, k2⟩ := h.after hx
  have hle : μ.le ⟨μ.pl, ν.im⟩ := ⟨fun _ _ _ e => e, fun k o u e => hx.le.im k o u e⟩
  refine ⟨⟨fun b o hb hd => ?_, k1.sep, k1.gen, k1.fresh, k1.base, h1.im, fun b o a k j u hb hr ha hu => ?_⟩, ⟨hle, k2.len, k2.calm, k2.blk, k2.frame, k2.size, k2.os, k2.tape, k2.output, k2.drawn, fun k o u hu => ?_⟩⟩
  · obtain ⟨a, ha, hr⟩ := k1.ob b o hb hd
    exact ⟨a, ha, hr.keep hle rfl (Nat.le_refl _)⟩
  · rcases hx.im k j u hu with e | e | ⟨b', ob', a', hb', _⟩
    · exact h.imsep b o a k j u hb hr ha e
    · obtain ⟨a', ha', hr'⟩ := h.ob b o hb (fun e => by rw [e] at hr; simp [Ob.rw] at hr)
      rw [ha'] at ha; cases ha
      have := hr'.lt (fun e => by rw [e] at hr; simp [Ob.rw] at hr)
      omega
    · simp at hb'
  · rcases hx.im k o u hu with e | e | ⟨b', ob', a', hb', _⟩
    · exact .inl e
    · exact .inr (.inl e)
    · simp at hb'
theorem reachL_closed : ∀ (k : Nat) {vs : List AV}, AV.closeds vs = true → reachL H k vs = []
  | 0, vs, _ => by simp [reachL]
  | k + 1, [], _ => by simp [reachL]
  | k + 1, x :: xs, h => by simp only [reachL, if_pos h]
theorem viewL_closed (k : Nat) : ∀ {vs : List AV}, AV.closeds vs = true → viewL H (k + 1) vs = some vs
  | [], _ => by simp [viewL]
  | x :: xs, h => by simp only [viewL, if_pos h]
theorem viewA_closed {vs : List AV} (h : AV.closeds vs = true) : viewA H vs = some (vs, H) := by
  simp only [viewA_def, reachL_closed _ h, frzH, fuelV, viewL_closed _ h, Option.map_some]
theorem viewR_closed {v : AV} (h : v.closed = true) : viewR H v = some v := by
  simp only [viewR_def, fuelV, reachV, viewV, if_pos h, frzH]
theorem reachV_closed (k : Nat) {v : AV} (h : v.closed = true) : reachV H (k + 1) v = [] := by simp only [reachV, if_pos h]
theorem viewV_closed (k : Nat) {v : AV} (h : v.closed = true) : viewV H (k + 1) v = some v := by simp only [viewV, if_pos h]
theorem reachL_cons (k : Nat) (x : AV) (xs : List AV) : reachL H (k + 1) (x :: xs) = reachV H k x ++ reachL H (k + 1) xs := by
  by_cases h : AV.closeds (x :: xs) = true
  · rw [reachL_closed _ h]
    simp only [AV.closeds, Bool.and_eq_true] at h
    rw [reachL_closed _ h.2]
    cases k with
    | zero => simp [reachV]
    | succ k => rw [reachV_closed _ h.1]; rfl
  · simp only [reachL, if_neg h]
theorem reachL_nil (k : Nat) : reachL H (k + 1) [] = [] := by simp only [reachL]
theorem reachV_agg (k : Nat) (xs : List AV) : reachV H (k + 1) (.agg xs) = reachL H k xs := by
  by_cases h : (AV.agg xs).closed = true
  · rw [reachV_closed _ h, reachL_closed _ (by simpa [AV.closed] using h)]
  · simp only [reachV, if_neg h, reachOne]
theorem reachV_tup (k : Nat) (xs : List AV) : reachV H (k + 1) (.tup xs) = reachL H k xs := by
  by_cases h : (AV.tup xs).closed = true
  · rw [reachV_closed _ h, reachL_closed _ (by simpa [AV.closed] using h)]
  · simp only [reachV, if_neg h, reachOne]
theorem reachV_iface (k : Nat) (t : TypeId) (v : AV) : reachV H (k + 1) (.iface t v) = reachV H k v := by
  by_cases h : (AV.iface t v).closed = true
  · rw [reachV_closed _ h]
    cases k with
    | zero => simp [reachV]
    | succ k => rw [reachV_closed _ (by simpa [AV.closed] using h)]
  · simp only [reachV, if_neg h, reachOne]
theorem reachV_sl0 (k b g o sz cl : Nat) (ex : Bool) : reachV H (k + 1) (.sl b g o 0 sz cl ex) = [] := by simp [reachV, reachOne]
/-- A slice of values that name no object. -/
theorem reachV_sl (k b g o n sz cl g' : Nat) (ex ro : Bool) (c : List AV) (hb : H[b]? = some (.cells g' ro c)) (hn : n ≠ 0) (hc : AV.closeds c = true) : reachV H (k + 1) (.sl b g o n sz cl ex) = [b] := by
  simp only [reachV, AV.closed, Bool.false_eq_true, if_false, reachOne, if_neg hn, hb]
  rw [reachL_closed _ (closeds_sub hc _ _)]
theorem viewL_nil (k : Nat) : viewL H (k + 1) [] = some [] := by simp only [viewL]
theorem viewL_cons (k : Nat) (x : AV) (xs : List AV) : viewL H (k + 2) (x :: xs) = (match viewV H (k + 1) x, viewL H (k + 2) xs with
    | some x', some xs' => some (x' :: xs')
    | _, _ => none) := by
  by_cases h : AV.closeds (x :: xs) = true
  · rw [viewL_closed _ h]
    simp only [AV.closeds, Bool.and_eq_true] at h
    rw [viewL_closed _ h.2, viewV_closed _ h.1]
  · conv => lhs; simp only [viewL]
    rw [if_neg h]
theorem viewV_agg (k : Nat) (xs : List AV) : viewV H (k + 2) (.agg xs) = (viewL H (k + 1) xs).map .agg := by
  by_cases h : (AV.agg xs).closed = true
  · rw [viewV_closed _ h, viewL_closed _ (by simpa [AV.closed] using h)]; rfl
  · conv => lhs; simp only [viewV]
    rw [if_neg h]
    rfl
theorem viewV_tup (k : Nat) (xs : List AV) : viewV H (k + 2) (.tup xs) = (viewL H (k + 1) xs).map .tup := by
  by_cases h : (AV.tup xs).closed = true
  · rw [viewV_closed _ h, viewL_closed _ (by simpa [AV.closed] using h)]; rfl
  · conv => lhs; simp only [viewV]
    rw [if_neg h]
    rfl
theorem viewV_iface (k : Nat) (t : TypeId) (v : AV) : viewV H (k + 2) (.iface t v) = (viewV H (k + 1) v).map (.iface t) := by
  by_cases h : (AV.iface t v).closed = true
  · rw [viewV_closed _ h, viewV_closed _ (by simpa [AV.closed] using h)]; rfl
  · conv => lhs; simp only [viewV]
    rw [if_neg h]
    rfl
theorem viewV_sl0 (k b g o sz cl : Nat) (ex : Bool) : viewV H (k + 1) (.sl b g o 0 sz cl ex) = some (.vs 0 sz []) := by simp [viewV, viewOne, AV.closed]
theorem viewV_sl (k b g o n sz cl : Nat) (ex : Bool) (c : List AV) (hb : H[b]? = some (.cells g true c)) (hn : n ≠ 0) (hl : o + n * sz ≤ c.length) (hc : AV.closeds c = true) : viewV H (k + 2) (.sl b g o n sz cl ex) = some (.vs n sz ((c.drop o).take (n * sz))) := by
  conv => lhs; simp only [viewV]
  simp only [AV.closed, Bool.false_eq_true, if_false, viewOne, if_neg hn, hb]
  rw [if_pos ⟨trivial, hl⟩, viewL_closed _ (closeds_sub hc _ _)]
  rfl
theorem frzH_nil : frzH [] H = H := rfl
theorem frzH_cons (b g : Nat) (bs : List Nat) (c : List AV) (hb : H[b]? = some (.cells g false c)) : frzH (b :: bs) H = frzH bs (H.set b (.cells g true c)) := by simp only [frzH, hb]
theorem frzH_ro (b g : Nat) (bs : List Nat) (c : List AV) (hb : H[b]? = some (.cells g true c)) : frzH (b :: bs) H = frzH bs H := by simp only [frzH, hb]
theorem viewA_sound {vs vs' : List AV} {H' : Heap} {us : List Value} (h : HR B μ H w) (hv : VRs μ vs us) (e : viewA H vs = some (vs', H')) :
    ∃ ν : Mu, HR B ν H' w ∧ Ext H H' μ ν w w ∧ VRs ⟨fun _ _ => none, ν.im⟩ vs' us ∧ H'.length = H.length := by
  rw [viewA_def] at e
  obtain ⟨x, hx, e2⟩ := Option.map_eq_some_iff.1 e
  cases e2
  obtain ⟨ν, h1, h2⟩ := frzH_sound (reachL H fuelV vs) h
  obtain ⟨k1, k2⟩ := viewL_sound h1 _ _ _ _ hx (hv.mono h2.le)
  exact ⟨ν, h1, h2, ⟨k1.1, fun i x y a b => VR.shut (μ := ν) (ν := ⟨fun _ _ => none, ν.im⟩) (fun _ _ _ e => e) (k1.2 i x y a b) (closeds_iff.1 k2 i x a)⟩, frzH_len _ _⟩
theorem viewR_sound {H1 : Heap} {ν : Mu} {r r' : AV} {v : Value} (h : HR B ν H1 w) (hr : VR ν r v) (e : viewR H1 r = some r') :
    ∃ (ρ : Mu) (H2 : Heap), HR B ρ H2 w ∧ Ext H1 H2 ν ρ w w ∧ VR ρ r' v ∧ r'.closed = true := by
  rw [viewR_def] at e
  obtain ⟨ρ, k1, k2⟩ := frzH_sound (reachV H1 fuelV r) h
  obtain ⟨m1, m2⟩ := viewV_sound k1 _ _ _ _ e (hr.mono k2.le)
  exact ⟨ρ, _, k1, k2, m1, m2⟩
end Go.Ai
