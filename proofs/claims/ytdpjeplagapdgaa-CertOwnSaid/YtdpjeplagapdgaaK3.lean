/- A part of what the law leans on: the abstract machine, the contracts, the rows. -/
import Derived.Test.YtdpjeplagapdgaaK2
import Derived.Calls
import Derived.Orders
/- The abstract machine's code, and one operation of it. -/
namespace Go.Ai
set_option linter.unusedSectionVars false
variable [DrMode]
set_option linter.unusedVariables false
set_option linter.unusedSimpArgs false

inductive AOpd where
  | n (j : Nat)
  | l (d : Nat)
  | c (v : AV)
inductive AOp where
  | N (o : NOp)
  | X (o : XOp)
  | call (f : Nat)
  | calli (tmp : Bool) (f : Nat)
  | callv
  | callp (f : Nat)
  | panic
  | inv (tbl : List (Nat × Nat))
structure AOper where
  ix : Nat
  o : AOp
  args : List AOpd
  grd : Option (AOpd × Bool)
  bef : Nat

inductive Out (α : Type) where
  | ok (a : α) (H : Heap)
  | pan (v : AV) (H : Heap)
abbrev Caller := Nat → List AV → Heap → Option (Out AV)

def opStep (cl : Caller) (o : AOp) (vs : List AV) (H : Heap) : Option (Out AV) :=
  match o with
  | .N no => (match nstep no vs (fun b => H[b]?) with
    | some (.val v) => some (.ok v H)
    | some (.new ob mk) => some (.ok (mk H.length) (H ++ [ob]))
    | none => none)
  | .X xo => (match xstep xo vs H with
    | some (v, H1) => some (.ok v H1)
    | none => none)
  | .call f => cl f vs H
  | .calli tmp f => (match viewA H vs with
    | none => none
    | some (vs', H') => (match cl f vs' [] with
      | some (.ok r H1) => (match viewR H1 r with
        | none => none
        | some r' => if tmp then (if r'.scal then some (.ok r' H) else none) else some (.ok r' H'))
      | _ => none))
  | .callv => (match vs with
    | .fn (.func f) first cap :: args => cl f (first ++ args ++ cap) H
    | _ => none)
  | .callp f => cl f vs H
  | .panic => (match vs with
    | [.iface t u] => some (.pan (.iface t u) H)
    | _ => none)
  | .inv tbl => (match vs with
    | .iface t v :: args => (match tbl.lookup t with
      | some f => cl f (v :: args) H
      | none => none)
    | _ => none)

/-- The method of that name of a struct type, by value: this function. -/
def methOk (P : Program) (t : TypeId) (name : String) (f : Nat) : Bool :=
  match P.info? t with
  | some i => (match i.methods.find? (·.name == name) with
    | some m => m.path.size == 0 && m.func == some (f, false) && (P.underlying t matches some (.struct _))
    | none => false)
  | none => false
def oargs (o : AOp) (op : Op) : List Operand :=
  match o with
  | .N _ => nargs op
  | .X _ => xargs op
  | .call _ | .calli _ _ | .callp _ => (match op with | .call c => c.args.toList | _ => [])
  | .panic => (match op with | .panic x => [x] | _ => [])
  | .inv _ => (match op with | .call c => (match c.callee with | .invoke r _ => r :: c.args.toList | _ => []) | _ => [])
  | .callv => (match op with | .call c => (match c.callee with | .value f => f :: c.args.toList | _ => []) | _ => [])
def chkOp (P : Program) (o : AOp) (op : Op) : Bool :=
  match o with
  | .N no => chkN P no op
  | .X xo => chkX P xo op
  | .call f | .calli _ f | .callp f => (match op with | .call c => (match c.callee with | .value (.func f') => f == f' | _ => false) | _ => false)
  | .callv => (match op with | .call c => (match c.callee with | .value _ => true | _ => false) | _ => false)
  | .panic => (match op with | .panic _ => true | _ => false)
  | .inv tbl => (match op with | .call c => (match c.callee with | .invoke _ name => tbl.all fun p => methOk P p.1 name p.2 | _ => false) | _ => false)

/-- What a call answers, held against the model. -/
def OutR (B : Nat) (μ : Mu) (H : Heap) (w : World) (out : Out AV) (e : Ending) (w' : World) : Prop :=
  match out with
  | .ok r H1 => ∃ v ν, e = .returned v ∧ VR ν r v ∧ HR B ν H1 w' ∧ Ext H H1 μ ν w w'
  | .pan r H1 => ∃ v ν, e = .panicked [{ v, recovered := false }] ∧ VR ν r v ∧ HR B ν H1 w' ∧ Ext H H1 μ ν w w'
def Enters (P : Program) (f : Nat) : Prop := ∀ args w, (callFunc f args).run P w = .ok (.enter f args) w
def Out.heap {α : Type} : Out α → Heap
  | .ok _ H => H
  | .pan _ H => H
/-- A caller that does as the model's calls. -/
def Sound (P : Program) (cl : Caller) : Prop := ∀ f args H out, cl f args H = some out → Enters P f ∧ H.length ≤ out.heap.length ∧ ∀ B μ w us, HR B μ H w → VRs μ args us → Calls P f us.toArray w (OutR B μ H w out)

variable {P : Program} {cl : Caller} {μ : Mu} {w : World} {B : Nat} {H : Heap}

theorem makes_new {ρ : Operand → Value} {o : Oper} {ob : Ob} {mk : Nat → AV} (hH : HR B μ H w) (h : Makes B P w ρ o μ ob mk) :
    ∃ u w' ν, (execOp ρ o).run P w = .ok (.value u) w' ∧ VR ν (mk H.length) u ∧ HR B ν (H ++ [ob]) w' ∧ Ext H (H ++ [ob]) μ ν w w' := by
  obtain ⟨ob', u, ext, hr, hg, hd, hk⟩ := h
  obtain ⟨h1, h2⟩ := hk (μ.set H.length 0 ⟨w.heap.size, 0, ext⟩) H.length (Mu.le_set _ (hH.fresh _ _ (Nat.le_refl _))) (Mu.set_same _ _ _ _)
  obtain ⟨h3, h4⟩ := hH.new ob' ob ⟨w.heap.size, 0, ext⟩ rfl hg h1
  exact ⟨u, _, _, hr, h2, h3, h4⟩

theorem method_ok {t : TypeId} {name : String} {f : Nat} (h : methOk P t name f = true) (n : Nat) (v : Value) : (method (n + 1) t v name).run P w = .ok (f, v) w := by
  unfold methOk at h
  split at h
  · rename_i i hi
    split at h
    · rename_i m hm
      simp only [Bool.and_eq_true, beq_iff_eq] at h
      obtain ⟨⟨h1, h2⟩, h3⟩ := h
      split at h3
      · rename_i fs hfs
        have hp : m.path = #[] := Array.eq_empty_of_size_eq_zero h1
        simp [method, typeInfo, hi, hm, hp, h2, follow, receiverAt, run_underlying hfs, Place.get]
      · cases h3
    · cases h
  · cases h
theorem ext1 {α : Type} (x : α) (xs : Array α) : (#[x] ++ xs).extract 1 (#[x] ++ xs).size = xs := by
  first
    | (simp; done)
    | (apply Array.ext'; simp; done)
    | (apply Array.ext <;> simp <;> omega)
theorem lookup_in {t f : Nat} : ∀ {tbl : List (Nat × Nat)}, tbl.lookup t = some f → (t, f) ∈ tbl
  | [], h => by simp at h
  | (a, b) :: r, h => by
    rw [List.lookup_cons] at h
    split at h
    · rename_i e
      simp only [beq_iff_eq] at e
      cases h
      simp [e]
    · exact List.mem_cons_of_mem _ (lookup_in h)
/-- ONE OPERATION DOES AS THE MODEL'S. -/
theorem op_sound {o : Oper} {a : Act} {ao : AOp} {vs : List AV} {out : Out AV} {next : Act → World → Prop} {Q : Exit → Act → World → Prop} (hcl : Sound P cl) (hH : HR B μ H w) (hchk : chkOp P ao o.op = true) (hv : VRs μ vs ((oargs ao o.op).map a.eval))
    (hs : opStep cl ao vs H = some out)
    (hok : ∀ v H1 u w' ν, out = .ok v H1 → VR ν v u → HR B ν H1 w' → Ext H H1 μ ν w w' → next (a.put o.dst u) w')
    (hpan : ∀ v H1 u w' ν, out = .pan v H1 → VR ν v u → HR B ν H1 w' → Ext H H1 μ ν w w' → Q (.panic [{ v := u, recovered := false }]) a w') : o.wp P a w next Q := by
  have call : ∀ (f : Nat) (args : List AV) (us : List Value) (out' : Out AV), cl f args H = some out' → VRs μ args us → (execOp a.eval o).run P w = (callFunc f us.toArray).run P w → out' = out → o.wp P a w next Q := by
    intro f args us out' hc hvs hr he
    subst he
    obtain ⟨hent, _, hcalls⟩ := hcl f args H out' hc
    unfold Oper.wp
    rw [hr, hent, Oper.upon_enter]
    refine (hcalls B μ w us hH hvs).mono fun e w' he => ?_
    cases out' with
    | ok r H1 => obtain ⟨v, ν, rfl, h1, h2, h3⟩ := he; exact hok r H1 v w' ν rfl h1 h2 h3
    | pan r H1 => obtain ⟨v, ν, rfl, h1, h2, h3⟩ := he; exact hpan r H1 v w' ν rfl h1 h2 h3
  cases ao with
  | N no =>
    simp only [opStep] at hs
    simp only [oargs] at hv
    split at hs
    · rename_i v hn; cases hs
      obtain ⟨u, hu, hr⟩ := nsim (P := P) hH.base hchk hv hn (fun b ob _ hb hd => hH.ob b ob hb hd) (fun k o u e => (hH.im k o u e).2)
      unfold Oper.wp
      rw [hu, Oper.upon_value]
      exact hok v H u w μ rfl hr hH (Ext.refl _ _ _)
    · rename_i ob mk hn; cases hs
      obtain ⟨u, w', ν, hr, h1, h2, h3⟩ := makes_new hH (nsim (P := P) hH.base hchk hv hn (fun b ob _ hb hd => hH.ob b ob hb hd) (fun k o u e => (hH.im k o u e).2))
      unfold Oper.wp
      rw [hr, Oper.upon_value]
      exact hok _ _ u w' ν rfl h1 h2 h3
    · cases hs
  | X xo =>
    simp only [opStep] at hs
    simp only [oargs] at hv
    split at hs
    · rename_i v H1 hx; cases hs
      obtain ⟨u, w', ν, hr, h1, h2, h3⟩ := xsim (P := P) hH hchk hv hx
      unfold Oper.wp
      rcases hr with hr | ⟨hr, rfl⟩
      · rw [hr, Oper.upon_value]; exact hok v H1 u w' ν rfl h1 h2 h3
      · rw [hr, Oper.upon_skip]; exact hok v H1 _ w' ν rfl h1 h2 h3
    · cases hs
  | call f =>
    simp only [opStep] at hs
    simp only [chkOp] at hchk
    simp only [oargs] at hv
    split at hchk
    · rename_i c hop
      split at hchk
      · rename_i f' hcal
        simp only [beq_iff_eq] at hchk
        subst hchk
        rw [hop] at hv
        refine call f vs _ out hs hv ?_ rfl
        simp only [execOp, hop, resolve, hcal, Act.eval, Deferred.ofValue, Sem.run_bind, Sem.run_pure, Result.andThen_ok, invoke]
        congr 2
        apply Array.ext'
        simp
      · cases hchk
    · cases hchk
  | calli tmp f =>
    simp only [opStep] at hs
    simp only [chkOp] at hchk
    simp only [oargs] at hv
    split at hchk
    · rename_i c hop
      split at hchk
      · rename_i f' hcal
        simp only [beq_iff_eq] at hchk
        subst hchk
        rw [hop] at hv
        split at hs
        · cases hs
        · rename_i vs' H' hvw
          split at hs
          · rename_i r H1 hc
            split at hs
            · cases hs
            · rename_i r' hrv
              obtain ⟨μ1, hf1, hf2, hf3, _⟩ := viewA_sound hH hv hvw
              obtain ⟨hent, _, hcalls⟩ := hcl f vs' [] _ hc
              have hr : (execOp a.eval o).run P w = (callFunc f (c.args.toList.map a.eval).toArray).run P w := by
                simp only [execOp, hop, resolve, hcal, Act.eval, Deferred.ofValue, Sem.run_bind, Sem.run_pure, Result.andThen_ok, invoke]
                congr 2
                apply Array.ext'
                simp
              unfold Oper.wp
              rw [hr, hent, Oper.upon_enter]
              refine (hcalls B ⟨fun _ _ => none, μ1.im⟩ w _ hf1.bare hf3).mono fun e w' he => ?_
              obtain ⟨v, ν, rfl, h1, h2, h3⟩ := he
              obtain ⟨ρ, H2, k1, k2, m1, m2⟩ := viewR_sound h2 h1 hrv
              have hx := h3.trans k2
              split at hs
              · split at hs <;> cases hs
                rename_i hsc
                obtain ⟨h4, h5⟩ := hH.after hx
                exact hok r' H v w' μ rfl (scal_any hsc m1) h4 h5
              · cases hs
                obtain ⟨h4, h5⟩ := hf1.afterI k1 hx
                exact hok r' H' v w' ⟨μ1.pl, ρ.im⟩ rfl (VR.shut (μ := ρ) (ν := ⟨μ1.pl, ρ.im⟩) (fun _ _ _ h => h) m1 m2) h4 (hf2.trans h5)
          · cases hs
      · cases hchk
    · cases hchk
  | callv =>
    simp only [opStep] at hs
    simp only [chkOp] at hchk
    simp only [oargs] at hv
    split at hchk
    · rename_i c hop
      split at hchk
      · rename_i x hcal
        rw [hop] at hv
        simp only [hcal, List.map_cons] at hv
        split at hs
        · rename_i f first cap args
          obtain ⟨u, t, e, hu, ht⟩ := hv.cases_cons
          injection e with e1 e2
          subst e1; subst e2
          cases hxv : a.eval x <;> rw [hxv] at hu <;> try (cases hu; done)
          cases hu
          rename_i first' cap' h1 h2 h3 h4
          have hfirst : VRs μ first first' := ⟨h1, h2⟩
          have hcap : VRs μ cap cap' := ⟨h3, h4⟩
          refine call f _ _ out hs ((hfirst.append ht).append hcap) ?_ rfl
          simp only [execOp, hop, resolve, hcal, hxv, Deferred.ofValue, Sem.run_bind, Sem.run_pure, Result.andThen_ok, invoke]
          congr 2
          apply Array.ext'
          simp
        · cases hs
      · cases hchk
    · cases hchk

  | callp f =>
    simp only [opStep] at hs
    simp only [chkOp] at hchk
    simp only [oargs] at hv
    split at hchk
    · rename_i c hop
      split at hchk
      · rename_i f' hcal
        simp only [beq_iff_eq] at hchk
        subst hchk
        rw [hop] at hv
        refine call f vs _ out hs hv ?_ rfl
        simp only [execOp, hop, resolve, hcal, Act.eval, Deferred.ofValue, Sem.run_bind, Sem.run_pure, Result.andThen_ok, invoke]
        congr 2
        apply Array.ext'
        simp
      · cases hchk
    · cases hchk
  | panic =>
    simp only [opStep] at hs
    simp only [chkOp] at hchk
    simp only [oargs] at hv
    split at hchk
    · rename_i x hop
      rw [hop] at hv
      simp only [List.map_cons, List.map_nil] at hv
      split at hs
      · rename_i t u
        cases hs
        have hu := hv.head
        cases hxv : a.eval x <;> rw [hxv] at hu <;> cases hu
        rename_i u' hu'
        unfold Oper.wp
        have hr : (execOp a.eval o).run P w = .halt (.panic (.iface t u')) w := by
          simp [execOp, hop, hxv, Instr.panic]
        rw [hr]
        exact hpan _ H _ w μ rfl (.iface hu') hH (Ext.refl _ _ _)
      · cases hs
    · cases hchk
  | inv tbl =>
    simp only [opStep] at hs
    simp only [chkOp] at hchk
    simp only [oargs] at hv
    split at hchk
    · rename_i c hop
      split at hchk
      · rename_i x name hcal
        rw [hop] at hv
        simp only [hcal, List.map_cons] at hv
        split at hs
        · rename_i t v args
          split at hs
          · rename_i f hf
            obtain ⟨u, tl, e, hu, ht⟩ := hv.cases_cons
            injection e with e1 e2
            subst e1; subst e2
            cases hxv : a.eval x <;> rw [hxv] at hu <;> cases hu
            rename_i u' hu'
            have hm := List.all_eq_true.1 hchk _ (lookup_in hf)
            refine call f (v :: args) (u' :: c.args.toList.map a.eval) out hs (.cons hu' ht) ?_ rfl
            have hmr := fun n => method_ok (P := P) (w := w) hm n u'
            have e0 : (#[Value.iface t u'] ++ c.args.map a.eval)[0]? = some (.iface t u') := by rw [Array.getElem?_append_left (Nat.zero_lt_one)]; rfl
            have e1 := ext1 (Value.iface t u') (c.args.map a.eval)
            simp only [execOp, hop, resolve, hcal, hxv, Deferred.ofValue, Sem.run_bind, Sem.run_pure, Result.andThen_ok, invoke, e0, e1, callMethod]
            have hd0 : 0 < Made.depth := by decide
            have hdep : ∃ n, P.types.size + Made.depth = n + 1 := ⟨P.types.size + Made.depth - 1, by omega⟩
            obtain ⟨n, hn⟩ := hdep
            rw [run_program]
            simp only [Result.andThen_ok]
            rw [hn, hmr n]
            simp only [Result.andThen_ok]
            congr 2
            apply Array.ext'
            simp
          · cases hs
        · cases hs
      · cases hchk
    · cases hchk

theorem appStep_len {sz bytes m : Nat} {s v : AV} {xs : List AV} {H H1 : Heap} (h : appStep sz bytes s m xs H = some (v, H1)) : H.length ≤ H1.length := by
  unfold appStep at h
  repeat' split at h
  all_goals first | (cases h; done) | (cases h; simp; done)
theorem xstep_len {xo : XOp} {vs : List AV} {v : AV} {H H1 : Heap} (h : xstep xo vs H = some (v, H1)) : H.length ≤ H1.length := by
  cases xo <;> simp only [xstep] at h
  all_goals repeat' split at h
  all_goals first | (cases h; done) | exact appStep_len h | (cases h; simp; done)
theorem op_len {ao : AOp} {vs : List AV} {H : Heap} {out : Out AV} (hcl : Sound P cl) (h : opStep cl ao vs H = some out) : H.length ≤ out.heap.length := by
  cases ao <;> simp only [opStep] at h
  case N no =>
    split at h <;> cases h <;> simp [Out.heap]
  case X xo =>
    split at h
    · rename_i hx; cases h; exact xstep_len hx
    · cases h
  case call f => exact (hcl f vs H out h).2.1
  case calli tmp f =>
    split at h
    · cases h
    · rename_i vs' H' hvw
      have hl : H'.length = H.length := by
        rw [viewA_def] at hvw
        obtain ⟨x, hx, e2⟩ := Option.map_eq_some_iff.1 hvw
        cases e2
        exact frzH_len _ _
      split at h
      · split at h
        · cases h
        · split at h
          · split at h <;> cases h
            exact Nat.le_refl _
          · cases h
            exact Nat.le_of_eq hl.symm
      · cases h
  case callv =>
    split at h
    · exact (hcl _ _ H out h).2.1
    · cases h
  case callp f => exact (hcl f vs H out h).2.1
  case panic =>
    split at h
    · cases h; exact Nat.le_refl _
    · cases h
  case inv tbl =>
    split at h
    · split at h
      · exact (hcl _ _ H out h).2.1
      · cases h
    · cases h
end Go.Ai
/- Operations in order: the abstract machine's row of operations does as the model's. -/
namespace Go.Ai
set_option linter.unusedSectionVars false
variable [DrMode]
set_option linter.unusedVariables false
set_option linter.unusedSimpArgs false

def evalOpd (env loc : List AV) : AOpd → AV
  | .n j => env.getD j .un
  | .l d => loc.getD d .un
  | .c v => v
def guardOk (env loc : List AV) : Option (AOpd × Bool) → Option Bool
  | none => some true
  | some (p, want) => match evalOpd env loc p with
    | .bool b => some (b == want)
    | .tup [] => some false
    | _ => none
def runOps (cl : Caller) (env : List AV) : List AOper → List AV → Heap → Option (Out (List AV))
  | [], loc, H => some (.ok loc H)
  | o :: r, loc, H => match guardOk env loc o.grd with
    | none => none
    | some false => runOps cl env r (.tup [] :: loc) H
    | some true => match opStep cl o.o (o.args.map (evalOpd env loc)) H with
      | some (.ok v H1) => runOps cl env r (v :: loc) H1
      | some (.pan v H1) => some (.pan v H1)
      | none => none

/-! ### Held against the model's -/
def chkOpd (names : List Tmp) (dsts : List (Option Tmp)) (x : Operand) (p : AOpd) : Bool :=
  match x with
  | .tmp t => (match p with
    | .n j => names[j]? == some t && !dsts.contains (some t)
    | .l d => dsts[d]? == some (some t) && !(dsts.take d).contains (some t)
    | .c _ => false)
  | .const v => (match p with
    | .c a => sameV a v
    | _ => false)
  | .func f => (match p with
    | .c (.fn (.func f') [] []) => f == f'
    | _ => false)
  | .global _ => false
def chkOpds (names : List Tmp) (dsts : List (Option Tmp)) : List Operand → List AOpd → Bool
  | [], [] => true
  | x :: xs, p :: ps => chkOpd names dsts x p && chkOpds names dsts xs ps
  | _, _ => false
def chkGuard (names : List Tmp) (dsts : List (Option Tmp)) (ops : Array Oper) (g : Option (Nat × Bool)) (p : Option (AOpd × Bool)) : Bool :=
  match g with
  | none => p.isNone
  | some (j, want) => (match p with
    | some (q, want') => want == want' && (match (ops[j]?).bind (·.dst) with | some t => chkOpd names dsts (.tmp t) q | none => false)
    | none => false)
def chkOper (P : Program) (names : List Tmp) (nt : Nat) (dsts : List (Option Tmp)) (ops : Array Oper) (o : Oper) (ao : AOper) : Bool :=
  chkOp P ao.o o.op && chkOpds names dsts (oargs ao.o o.op) ao.args && chkGuard names dsts ops o.guard ao.grd && (match o.dst with | some t => decide (t < nt) | none => true)
def chkOps (P : Program) (names : List Tmp) (nt : Nat) (ops : Array Oper) : List (Option Tmp) → List AOper → Bool
  | _, [] => true
  | dsts, ao :: r => (match ops[ao.ix]? with
    | some o => chkOper P names nt dsts ops o ao && chkOps P names nt ops (o.dst :: dsts) r
    | none => false)
def dstsOf (ops : Array Oper) : List (Option Tmp) → List AOper → List (Option Tmp)
  | dsts, [] => dsts
  | dsts, ao :: r => dstsOf ops (((ops[ao.ix]?).bind (·.dst)) :: dsts) r

/-- The temporaries of the model, and what the abstract machine holds in their places. -/
structure Inv (names : List Tmp) (nt : Nat) (ds : List Deferred) (env loc : List AV) (dsts : List (Option Tmp)) (μ : Mu) (a : Act) : Prop where
  size : a.tmps.size = nt
  defers : a.defers = ds
  named : ∀ (j : Nat) t, names[j]? = some t → some t ∉ dsts → VR μ (env.getD j .un) (a.tmps.getD t undef)
  locs : ∀ (d : Nat) t, dsts[d]? = some (some t) → some t ∉ dsts.take d → VR μ (loc.getD d .un) (a.tmps.getD t undef)

variable {P : Program} {cl : Caller} {μ ν : Mu} {w : World} {B : Nat} {H : Heap} {names : List Tmp} {nt : Nat} {ds : List Deferred} {env loc : List AV} {dsts : List (Option Tmp)} {a : Act}

theorem Inv.mono (h : Inv names nt ds env loc dsts μ a) (hle : μ.le ν) : Inv names nt ds env loc dsts ν a :=
  ⟨h.size, h.defers, fun j t h1 h2 => (h.named j t h1 h2).mono hle, fun d t h1 h2 => (h.locs d t h1 h2).mono hle⟩
theorem Inv.opd (h : Inv names nt ds env loc dsts μ a) {x : Operand} {p : AOpd} (hc : chkOpd names dsts x p = true) : VR μ (evalOpd env loc p) (a.eval x) := by
  cases x with
  | tmp t =>
    cases p with
    | n j => simp only [chkOpd, Bool.and_eq_true, beq_iff_eq, Bool.not_eq_true'] at hc; exact h.named j t hc.1 (by intro hm; simp [List.contains_iff_mem, hm] at hc)
    | l d => simp only [chkOpd, Bool.and_eq_true, beq_iff_eq, Bool.not_eq_true'] at hc; exact h.locs d t hc.1 (by intro hm; simp [List.contains_iff_mem, hm] at hc)
    | c v => simp [chkOpd] at hc
  | const v =>
    cases p <;> simp [chkOpd] at hc
    exact sameV_spec μ _ _ hc
  | func f =>
    simp only [chkOpd] at hc
    split at hc
    · simp only [beq_iff_eq] at hc; subst hc
      exact .fn (first' := []) (cap' := []) rfl (by simp) rfl (by simp)
    · cases hc
  | global g => simp [chkOpd] at hc
theorem Inv.opds (h : Inv names nt ds env loc dsts μ a) : ∀ {xs : List Operand} {ps : List AOpd}, chkOpds names dsts xs ps = true → VRs μ (ps.map (evalOpd env loc)) (xs.map a.eval)
  | [], [], _ => .nil μ
  | x :: xs, p :: ps, hc => by simp only [chkOpds, Bool.and_eq_true] at hc; exact .cons (h.opd hc.1) (h.opds hc.2)
  | [], _ :: _, hc => by simp [chkOpds] at hc
  | _ :: _, [], hc => by simp [chkOpds] at hc
theorem VR.skipped (μ : Mu) : VR μ (.tup []) undef := VR.tup' (ys := #[]) (VRs.nil μ)
theorem VR.of_skipped {μ : Mu} {u : Value} (h : VR μ (.tup []) u) : u = .tuple #[] := by
  cases h with
  | @tup _ ys h1 h2 => have : ys = [] := List.length_eq_zero_iff.1 h1.symm; subst this; rfl
theorem Inv.guard (h : Inv names nt ds env loc dsts μ a) {ops : Array Oper} {o : Oper} {p : Option (AOpd × Bool)} {b : Bool} (hc : chkGuard names dsts ops o.guard p = true) (hg : guardOk env loc p = some b) : Region.wanted o (yielded ops a.tmps) = b := by
  unfold Region.wanted
  cases hgd : o.guard with
  | none =>
    rw [hgd] at hc
    simp only [chkGuard, Option.isNone_iff_eq_none] at hc
    subst hc
    simp [guardOk] at hg
    simp [hg]
  | some jw =>
    obtain ⟨j, want⟩ := jw
    rw [hgd] at hc
    simp only [chkGuard] at hc
    split at hc
    · rename_i q want'
      simp only [Bool.and_eq_true, beq_iff_eq] at hc
      obtain ⟨rfl, hc⟩ := hc
      split at hc
      · rename_i t ht
        have hv := h.opd hc
        simp only [guardOk] at hg
        split at hg
        · rename_i b' hb
          cases hg
          rw [hb] at hv
          simp only [Act.eval] at hv
          have hu : a.tmps.getD t undef = .bool b' := by
            generalize a.tmps.getD t undef = u at hv
            cases hv; rfl
          have hlt : t < a.tmps.size := by
            rcases Nat.lt_or_ge t a.tmps.size with h' | h'
            · exact h'
            · rw [Array.getD, dif_neg (by omega)] at hu; simp [undef] at hu
          have hy : yielded ops a.tmps j = some b' := by
            unfold yielded
            rw [ht]
            simp only [Option.bind_some]
            have : a.tmps[t]? = some (.bool b') := by
              rw [Array.getElem?_eq_getElem hlt]
              rw [Array.getD, dif_pos hlt] at hu
              exact congrArg some hu
            rw [this]
          simp only [hy]
          cases b' <;> cases want <;> rfl
        · rename_i hb
          cases hg
          rw [hb] at hv
          simp only [Act.eval] at hv
          have hu := hv.of_skipped
          have hy : yielded ops a.tmps j = none := by
            unfold yielded
            rw [ht]
            simp only [Option.bind_some]
            rcases Nat.lt_or_ge t a.tmps.size with h' | h'
            · rw [Array.getElem?_eq_getElem h']
              rw [Array.getD, dif_pos h'] at hu
              have hu2 : a.tmps[t] = .tuple #[] := hu
              rw [hu2]
            · rw [Array.getElem?_eq_none h']
          simp only [hy]
          cases want <;> rfl
        · cases hg
      · cases hc
    · cases hc
theorem Inv.put (h : Inv names nt ds env loc dsts μ a) {dst : Option Tmp} (hd : ∀ t, dst = some t → t < nt) (hle : μ.le ν) {v : AV} {u : Value} (hv : VR ν v u) : Inv names nt ds env (v :: loc) (dst :: dsts) ν (a.put dst u) := by
  have hsz := h.size
  refine ⟨?_, ?_, ?_, ?_⟩
  · cases dst <;> simp [Act.put, hsz]
  · cases dst <;> simp [Act.put, h.defers]
  · intro j t hj hn
    simp only [List.mem_cons, not_or] at hn
    have := (h.named j t hj hn.2).mono hle
    cases dst with
    | none => exact this
    | some d =>
      simp only [Act.put]
      have hne : d ≠ t := fun e => hn.1 (by rw [e])
      simpa [Array.getD_eq_getD_getElem?, Array.getElem?_setIfInBounds_ne hne] using this
  · intro d t hd' hn
    cases d with
    | zero =>
      simp at hd'
      subst hd'
      have hlt := hd t rfl
      simp only [Act.put, List.getD_cons_zero]
      rw [Array.getD_eq_getD_getElem?, Array.getElem?_setIfInBounds]
      simp [hsz, hlt, hv]
    | succ d =>
      simp at hd' hn
      have := (h.locs d t hd' hn.2).mono hle
      cases dst with
      | none => exact this
      | some d' =>
        simp only [Act.put, List.getD_cons_succ]
        have hne : d' ≠ t := fun e => hn.1 (by rw [e])
        simpa [Array.getD_eq_getD_getElem?, Array.getElem?_setIfInBounds_ne hne] using this

/-- A ROW OF OPERATIONS DOES AS THE MODEL'S. -/
theorem seq_sound {ops : Array Oper} {Q : Exit → Act → World → Prop} (hcl : Sound P cl) : ∀ (l : List AOper) (loc : List AV) (dsts : List (Option Tmp)) (μ : Mu) (H : Heap) (a : Act) (w : World) (out : Out (List AV)), chkOps P names nt ops dsts l = true →
    Inv names nt ds env loc dsts μ a → HR B μ H w → runOps cl env l loc H = some out →
    (∀ loc1 H1 a' w' ν, out = .ok loc1 H1 → Inv names nt ds env loc1 (dstsOf ops dsts l) ν a' → HR B ν H1 w' → Ext H H1 μ ν w w' → Q .normal a' w') →
    (∀ v H1 u a' w' ν dsts', out = .pan v H1 → VR ν v u → (∀ t, some t ∈ dsts' → some t ∈ dstsOf ops dsts l) → (∃ loc', Inv names nt ds env loc' dsts' ν a') → HR B ν H1 w' → Ext H H1 μ ν w w' → Q (.panic [{ v := u, recovered := false }]) a' w') →
    wpOps P ops Q (l.map (·.ix)) a w := by
  intro l
  induction l with
  | nil =>
    intro loc dsts μ H a w out hc hI hH hr hok hpan
    simp only [runOps] at hr
    cases hr
    exact hok loc H a w μ rfl hI hH (Ext.refl _ _ _)
  | cons ao l ih =>
    intro loc dsts μ H a w out hc hI hH hr hok hpan
    simp only [chkOps] at hc
    split at hc
    · rename_i o ho
      simp only [Bool.and_eq_true, chkOper] at hc
      obtain ⟨⟨⟨⟨h1, h2⟩, h3⟩, h4⟩, h5⟩ := hc
      have hdst : ∀ t, o.dst = some t → t < nt := fun t e => by rw [e] at h4; simpa using h4
      have hds : dstsOf ops dsts (ao :: l) = dstsOf ops (o.dst :: dsts) l := by simp [dstsOf, ho]
      rw [hds] at hok hpan
      have hmem : ∀ (l : List AOper) (dsts : List (Option Tmp)) t, some t ∈ dsts → some t ∈ dstsOf ops dsts l := by
        intro l
        induction l with
        | nil => intro dsts t h; exact h
        | cons x l ih => intro dsts t h; simp only [dstsOf]; exact ih _ _ (by simp [h])
      simp only [List.map_cons, wpOps, ho]
      simp only [runOps] at hr
      cases hg : guardOk env loc ao.grd with
      | none => rw [hg] at hr; cases hr
      | some b =>
        rw [hg] at hr
        have hw := hI.guard h3 hg
        cases b with
        | false =>
          rw [hw]
          simp only [Bool.false_eq_true, if_false]
          exact ih _ _ μ H _ w out h5 (hI.put hdst (Mu.le_refl μ) (VR.skipped μ)) hH hr hok hpan
        | true =>
          rw [hw]
          simp only [if_true]
          refine .inl ?_
          simp only at hr
          cases hop : opStep cl ao.o (ao.args.map (evalOpd env loc)) H with
          | none => rw [hop] at hr; cases hr
          | some out1 =>
            rw [hop] at hr
            refine op_sound hcl hH h1 (hI.opds h2) hop ?_ ?_
            · intro v H1 u w' ν e hv hH1 hx
              subst e
              exact ih _ _ ν H1 _ w' out h5 (hI.put hdst hx.le hv) hH1 hr (fun loc1 H2 a' w2 ρ e1 e2 e3 e4 => hok loc1 H2 a' w2 ρ e1 e2 e3 (hx.trans e4)) (fun v' H2 u' a' w2 ρ d' e1 e2 e3 e4 e5 e6 => hpan v' H2 u' a' w2 ρ d' e1 e2 e3 e4 e5 (hx.trans e6))
            · intro v H1 u w' ν e hv hH1 hx
              subst e
              simp only at hr
              cases hr
              exact hpan v H1 u a w' ν dsts rfl hv (fun t ht => hmem l _ t (by simp [ht])) ⟨loc, hI.mono hx.le⟩ hH1 hx
    · cases hc
end Go.Ai
/- Abstract values, held against each other. -/
namespace Go.Ai
set_option linter.unusedSectionVars false
variable [DrMode]
mutual
def AV.beq : AV → AV → Bool
  | .un, .un => true
  | .bool a, .bool b => a == b
  | .int k n, .int k' n' => k == k' && n == n'
  | .str a, .str b => a.data.toList == b.data.toList
  | .nilp, .nilp => true
  | .ptr b g o, .ptr b' g' o' => b == b' && g == g' && o == o'
  | .nils, .nils => true
  | .sl b g o n sz cl ex, .sl b' g' o' n' sz' cl' ex' => b == b' && g == g' && o == o' && n == n' && sz == sz' && cl == cl' && ex == ex'
  | .nilm, .nilm => true
  | .mp b, .mp b' => b == b'
  | .nilf, .nilf => true
  | .fn f x y, .fn f' x' y' => f == f' && AV.beqs x x' && AV.beqs y y'
  | .nili, .nili => true
  | .iface t v, .iface t' v' => t == t' && AV.beq v v'
  | .agg x, .agg y => AV.beqs x y
  | .tup x, .tup y => AV.beqs x y
  | .vs n sz x, .vs n' sz' y => n == n' && sz == sz' && AV.beqs x y
  | .vp x o, .vp y o' => o == o' && AV.beqs x y
  | _, _ => false
def AV.beqs : List AV → List AV → Bool
  | [], [] => true
  | x :: xs, y :: ys => AV.beq x y && AV.beqs xs ys
  | _, _ => false
end
mutual
theorem AV.eq_of_beq : ∀ (x y : AV), AV.beq x y = true → x = y := by
  intro x y h
  match x, y with
  | .un, .un => rfl
  | .bool a, .bool b => simp [AV.beq] at h; rw [h]
  | .int k n, .int k' n' => simp [AV.beq] at h; rw [h.1, h.2]
  | .str a, .str b =>
    simp only [AV.beq, beq_iff_eq] at h
    have e : a = b := by cases a; cases b; simp_all
    rw [e]
  | .nilp, .nilp => rfl
  | .ptr b g o, .ptr b' g' o' => simp [AV.beq] at h; rw [h.1.1, h.1.2, h.2]
  | .nils, .nils => rfl
  | .sl b g o n sz cl ex, .sl b' g' o' n' sz' cl' ex' =>
    simp [AV.beq] at h
    obtain ⟨⟨⟨⟨⟨⟨rfl, rfl⟩, rfl⟩, rfl⟩, rfl⟩, rfl⟩, rfl⟩ := h
    rfl
  | .nilm, .nilm => rfl
  | .mp b, .mp b' => simp [AV.beq] at h; rw [h]
  | .nilf, .nilf => rfl
  | .fn f x y, .fn f' x' y' =>
    simp only [AV.beq, Bool.and_eq_true, beq_iff_eq] at h
    rw [h.1.1, AV.eq_of_beqs x x' h.1.2, AV.eq_of_beqs y y' h.2]
  | .nili, .nili => rfl
  | .iface t v, .iface t' v' =>
    simp only [AV.beq, Bool.and_eq_true, beq_iff_eq] at h
    rw [h.1, AV.eq_of_beq v v' h.2]
  | .agg x, .agg y => simp only [AV.beq] at h; rw [AV.eq_of_beqs x y h]
  | .tup x, .tup y => simp only [AV.beq] at h; rw [AV.eq_of_beqs x y h]
  | .vs n sz x, .vs n' sz' y =>
    simp only [AV.beq, Bool.and_eq_true, beq_iff_eq] at h
    rw [h.1.1, h.1.2, AV.eq_of_beqs x y h.2]
  | .vp x o, .vp y o' =>
    simp only [AV.beq, Bool.and_eq_true, beq_iff_eq] at h
    rw [h.1, AV.eq_of_beqs x y h.2]
theorem AV.eq_of_beqs : ∀ (x y : List AV), AV.beqs x y = true → x = y := by
  intro x y h
  match x, y with
  | [], [] => rfl
  | x :: xs, y :: ys =>
    simp only [AV.beqs, Bool.and_eq_true] at h
    rw [AV.eq_of_beq x y h.1, AV.eq_of_beqs xs ys h.2]
  | [], _ :: _ => simp [AV.beqs] at h
  | _ :: _, [] => simp [AV.beqs] at h
end
mutual
theorem AV.beq_refl : ∀ (x : AV), AV.beq x x = true
  | .un | .nilp | .nils | .nilm | .nilf | .nili => rfl
  | .bool a => by simp [AV.beq]
  | .int k n => by simp [AV.beq]
  | .str a => by simp [AV.beq]
  | .ptr b g o => by simp [AV.beq]
  | .sl b g o n sz cl ex => by simp [AV.beq]
  | .mp b => by simp [AV.beq]
  | .fn f x y => by simp [AV.beq, AV.beqs_refl x, AV.beqs_refl y]
  | .iface t v => by simp [AV.beq, AV.beq_refl v]
  | .agg x => by simp [AV.beq, AV.beqs_refl x]
  | .tup x => by simp [AV.beq, AV.beqs_refl x]
  | .vs n sz x => by simp [AV.beq, AV.beqs_refl x]
  | .vp x o => by simp [AV.beq, AV.beqs_refl x]
theorem AV.beqs_refl : ∀ (x : List AV), AV.beqs x x = true
  | [] => rfl
  | x :: xs => by simp [AV.beqs, AV.beq_refl x, AV.beqs_refl xs]
end
def obEq : Option Ob → Option Ob → Bool
  | none, none => true
  | some .dead, some .dead => true
  | some (.cells g ro c), some (.cells g' ro' c') => g == g' && ro == ro' && AV.beqs c c'
  | some (.sit s p), some (.sit s' p') => s.data.toList == s'.data.toList && p == p'
  | _, _ => false
theorem obEq_eq {x y : Option Ob} (h : obEq x y = true) : x = y := by
  unfold obEq at h
  split at h
  · rfl
  · rfl
  · rename_i c _ _ c'
    simp only [Bool.and_eq_true, beq_iff_eq] at h
    rw [h.1.1, h.1.2, AV.eq_of_beqs _ _ h.2]
  · rename_i s p s' p'
    simp only [Bool.and_eq_true, beq_iff_eq] at h
    have e : s = s' := by cases s; cases s'; simp_all
    rw [e, h.2]
  · cases h
theorem obEq_refl (x : Option Ob) : obEq x x = true := by
  cases x with
  | none => rfl
  | some o => cases o <;> simp [obEq, AV.beqs_refl]
theorem obEq_of {x y : Option Ob} (h : x = y) : obEq x y = true := by rw [h]; exact obEq_refl y
end Go.Ai
/- A row of operations whose order is open: the abstract machine's one order stands for all. -/
namespace Go.Ai
set_option linter.unusedSectionVars false
variable [DrMode]
set_option linter.unusedVariables false
set_option linter.unusedSimpArgs false

def isX : AOp → Bool
  | .N _ => false
  | _ => true
/-- What the operations ahead that are not bound to come first have noted (the last one stands first in the list). -/
def gather (bef : Nat) : List (Option Nat) → List Nat
  | [] => []
  | x :: r => if bef.testBit r.length then gather bef r else match x with
    | some b => b :: gather bef r
    | none => gather bef r
def hide : List Nat → Heap → Heap
  | [], H => H
  | b :: r, H => hide r (H.set b .dead)
def unhide : List Nat → Heap → Heap → Heap
  | [], _, H1 => H1
  | b :: r, H, H1 => unhide r H (H1.set b (H.getD b .dead))

def runDraw (cl : Caller) (env : List AV) : List AOper → List AV → List (Option Nat) → List (Option Nat) → Heap → Option (List AV × Heap)
  | [], loc, _, _, H => some (loc, H)
  | o :: r, loc, ts, bs, H => match guardOk env loc o.grd with
    | none => none
    | some false => runDraw cl env r (.tup [] :: loc) (none :: ts) (none :: bs) H
    | some true => match o.o with
      | .N no => (match nstep no (o.args.map (evalOpd env loc)) (fun b => H[b]?) with
        | some (.val v) => runDraw cl env r (v :: loc) (ntouch no (o.args.map (evalOpd env loc)) :: ts) (none :: bs) H
        | some (.new ob mk) => runDraw cl env r (mk H.length :: loc) (none :: ts) (some H.length :: bs) (H ++ [ob])
        | none => none)
      | ao => (match opStep cl ao (o.args.map (evalOpd env loc)) (hide (gather o.bef bs) H) with
        | some (.ok v H1) => if (gather o.bef ts).all (fun b => obEq H1[b]? (hide (gather o.bef bs) H)[b]?) then runDraw cl env r (v :: loc) (none :: ts) (none :: bs) (unhide (gather o.bef bs) H H1) else none
        | _ => none)

theorem mem_gather (bef : Nat) : ∀ (l : List (Option Nat)) (b : Nat), b ∈ gather bef l ↔ ∃ q, q < l.length ∧ l[l.length - 1 - q]? = some (some b) ∧ bef.testBit q = false
  | [], b => by simp [gather]
  | x :: r, b => by
    have ih := mem_gather bef r b
    have key : (∃ q, q < (x :: r).length ∧ (x :: r)[(x :: r).length - 1 - q]? = some (some b) ∧ bef.testBit q = false) ↔ (x = some b ∧ bef.testBit r.length = false) ∨ ∃ q, q < r.length ∧ r[r.length - 1 - q]? = some (some b) ∧ bef.testBit q = false := by
      constructor
      · rintro ⟨q, h1, h2, h3⟩
        by_cases e : q = r.length
        · subst e
          left
          simp at h2
          exact ⟨h2, h3⟩
        · right
          simp only [List.length_cons] at h1 h2
          refine ⟨q, by omega, ?_, h3⟩
          have e2 : r.length + 1 - 1 - q = (r.length - 1 - q) + 1 := by omega
          rw [e2, List.getElem?_cons_succ] at h2
          exact h2
      · rintro (⟨h1, h2⟩ | ⟨q, h1, h2, h3⟩)
        · exact ⟨r.length, by simp, by
            have e : (x :: r).length - 1 - r.length = 0 := by simp
            rw [e, h1]; rfl, h2⟩
        · refine ⟨q, by simp; omega, ?_, h3⟩
          have e2 : (x :: r).length - 1 - q = (r.length - 1 - q) + 1 := by simp; omega
          rw [e2, List.getElem?_cons_succ]; exact h2
    rw [key]
    simp only [gather]
    by_cases hb : bef.testBit r.length = true
    · rw [if_pos hb, ih]; simp [hb]
    · rw [if_neg hb]
      cases x with
      | none => simp only; rw [ih]; simp
      | some c =>
        have hb' : bef.testBit r.length = false := by simpa using hb
        simp only [List.mem_cons]
        rw [ih]
        constructor
        · rintro (h | h)
          · exact .inl ⟨by rw [h], hb'⟩
          · exact .inr h
        · rintro (⟨h, _⟩ | h)
          · injection h with h; exact .inl h.symm
          · exact .inr h
theorem hide_len : ∀ (l : List Nat) (H : Heap), (hide l H).length = H.length
  | [], H => rfl
  | b :: r, H => by rw [hide, hide_len r]; simp
theorem hide_get : ∀ (l : List Nat) (H : Heap) (b : Nat), (hide l H)[b]? = if b ∈ l ∧ b < H.length then some .dead else H[b]?
  | [], H, b => by simp [hide]
  | c :: r, H, b => by
    rw [hide, hide_get r]
    simp only [List.length_set, List.mem_cons]
    by_cases h1 : b ∈ r ∧ b < H.length
    · rw [if_pos h1, if_pos ⟨.inr h1.1, h1.2⟩]
    · rw [if_neg h1]
      by_cases h2 : b = c
      · subst h2
        by_cases h3 : b < H.length
        · rw [if_pos ⟨.inl rfl, h3⟩]; simp [h3]
        · rw [if_neg (fun h => h3 h.2)]; simp [h3]
      · rw [List.getElem?_set_ne (fun e => h2 e.symm), if_neg]
        rintro ⟨h3 | h3, h4⟩
        · exact h2 h3
        · exact h1 ⟨h3, h4⟩
theorem unhide_len : ∀ (l : List Nat) (H H1 : Heap), (unhide l H H1).length = H1.length
  | [], H, H1 => rfl
  | b :: r, H, H1 => by rw [unhide, unhide_len r]; simp
theorem unhide_get : ∀ (l : List Nat) (H H1 : Heap) (b : Nat), H.length ≤ H1.length → b < H.length → (unhide l H H1)[b]? = if b ∈ l then H[b]? else H1[b]?
  | [], H, H1, b, _, _ => by simp [unhide]
  | c :: r, H, H1, b, hl, hb => by
    rw [unhide, unhide_get r _ _ _ (by simpa using hl) hb]
    simp only [List.mem_cons]
    by_cases h1 : b ∈ r
    · rw [if_pos h1, if_pos (.inr h1)]
    · rw [if_neg h1]
      by_cases h2 : b = c
      · subst h2
        rw [if_pos (.inl rfl)]
        have : b < H1.length := by omega
        simp [this, hb]
      · rw [List.getElem?_set_ne (fun e => h2 e.symm), if_neg (by simp [h1, h2])]
theorem unhide_get_ge : ∀ (l : List Nat) (H H1 : Heap) (b : Nat), (∀ c ∈ l, c < H.length) → H.length ≤ b → (unhide l H H1)[b]? = H1[b]?
  | [], H, H1, b, _, _ => rfl
  | c :: r, H, H1, b, hl, hb => by
    rw [unhide, unhide_get_ge r _ _ _ (fun d hd => hl d (by simp [hd])) hb]
    have := hl c (by simp)
    rw [List.getElem?_set_ne (by omega)]

/-- The states that the one order goes through. -/
structure Seqs where
  V : Nat → AV
  Hs : Nat → Heap
  T : Nat → Option Nat
  Bn : Nat → Option Nat
/-- The p-th operation's step. -/
def DStep (cl : Caller) (env : List AV) (S : Seqs) (p : Nat) (o : AOper) : Prop :=
  ∃ loc : List AV, loc.length = p ∧ (∀ d, d < p → loc[d]? = some (S.V (p - 1 - d))) ∧
    ((guardOk env loc o.grd = some false ∧ S.V p = .tup [] ∧ S.Hs (p + 1) = S.Hs p ∧ S.T p = none ∧ S.Bn p = none) ∨
     (guardOk env loc o.grd = some true ∧ ∃ no, o.o = .N no ∧ nstep no (o.args.map (evalOpd env loc)) (fun b => (S.Hs p)[b]?) = some (.val (S.V p)) ∧ S.Hs (p + 1) = S.Hs p ∧ S.T p = ntouch no (o.args.map (evalOpd env loc)) ∧ S.Bn p = none) ∨
     (guardOk env loc o.grd = some true ∧ ∃ no ob mk, o.o = .N no ∧ nstep no (o.args.map (evalOpd env loc)) (fun b => (S.Hs p)[b]?) = some (.new ob mk) ∧ S.V p = mk (S.Hs p).length ∧ S.Hs (p + 1) = S.Hs p ++ [ob] ∧ S.T p = none ∧ S.Bn p = some (S.Hs p).length) ∨
     (guardOk env loc o.grd = some true ∧ isX o.o = true ∧ ∃ hid H1, (∀ b, b ∈ hid ↔ ∃ q, q < p ∧ S.Bn q = some b ∧ o.bef.testBit q = false) ∧ (∀ q b, q < p → S.T q = some b → o.bef.testBit q = false → H1[b]? = (hide hid (S.Hs p))[b]?) ∧
        (S.Hs p).length ≤ H1.length ∧ opStep cl o.o (o.args.map (evalOpd env loc)) (hide hid (S.Hs p)) = some (.ok (S.V p) H1) ∧ S.Hs (p + 1) = unhide hid (S.Hs p) H1 ∧ S.T p = none ∧ S.Bn p = none))

theorem draw_states {P : Program} {cl : Caller} {env : List AV} (hcl : Sound P cl) : ∀ (l : List AOper) (loc : List AV) (ts bs : List (Option Nat)) (H : Heap) (locn : List AV) (Hn : Heap), ts.length = loc.length → bs.length = loc.length → runDraw cl env l loc ts bs H = some (locn, Hn) →
    ∃ S : Seqs, (∀ d, d < loc.length → loc[d]? = some (S.V (loc.length - 1 - d)) ∧ ts[d]? = some (S.T (loc.length - 1 - d)) ∧ bs[d]? = some (S.Bn (loc.length - 1 - d))) ∧ S.Hs loc.length = H ∧ S.Hs (loc.length + l.length) = Hn ∧
      locn.length = loc.length + l.length ∧ (∀ d, d < locn.length → locn[d]? = some (S.V (locn.length - 1 - d))) ∧ ∀ q o, l[q]? = some o → DStep cl env S (loc.length + q) o := by
  intro l
  induction l with
  | nil =>
    intro loc ts bs H locn Hn h1 h2 hr
    simp only [runDraw] at hr
    cases hr
    refine ⟨⟨fun p => loc.getD (loc.length - 1 - p) .un, fun _ => H, fun p => ts.getD (loc.length - 1 - p) none, fun p => bs.getD (loc.length - 1 - p) none⟩, ?_, rfl, rfl, by simp, ?_, by simp⟩
    · intro d hd
      have e : loc.length - 1 - (loc.length - 1 - d) = d := by omega
      simp only [e]
      exact ⟨by simp [hd], by simp [h1, hd], by simp [h2, hd]⟩
    · intro d hd
      have e : loc.length - 1 - (loc.length - 1 - d) = d := by omega
      simp only [e]
      simp [hd]
  | cons o l ih =>
    intro loc ts bs H locn Hn h1 h2 hr
    -- what each way through the step has in common
    have step : ∀ (v : AV) (t bn : Option Nat) (H' : Heap), runDraw cl env l (v :: loc) (t :: ts) (bn :: bs) H' = some (locn, Hn) →
        (∀ S : Seqs, S.V loc.length = v → S.T loc.length = t → S.Bn loc.length = bn → S.Hs loc.length = H → S.Hs (loc.length + 1) = H' → (∀ d, d < loc.length → loc[d]? = some (S.V (loc.length - 1 - d)) ∧ ts[d]? = some (S.T (loc.length - 1 - d)) ∧ bs[d]? = some (S.Bn (loc.length - 1 - d))) → DStep cl env S loc.length o) →
        ∃ S : Seqs, (∀ d, d < loc.length → loc[d]? = some (S.V (loc.length - 1 - d)) ∧ ts[d]? = some (S.T (loc.length - 1 - d)) ∧ bs[d]? = some (S.Bn (loc.length - 1 - d))) ∧ S.Hs loc.length = H ∧ S.Hs (loc.length + (o :: l).length) = Hn ∧
          locn.length = loc.length + (o :: l).length ∧ (∀ d, d < locn.length → locn[d]? = some (S.V (locn.length - 1 - d))) ∧ ∀ q o', (o :: l)[q]? = some o' → DStep cl env S (loc.length + q) o' := by
      intro v t bn H' hrec hD
      obtain ⟨S, a1, a2, a3, a4, a5, a6⟩ := ih (v :: loc) (t :: ts) (bn :: bs) H' locn Hn (by simp [h1]) (by simp [h2]) hrec
      simp only [List.length_cons] at a1 a2 a3 a4 a6
      have z := a1 0 (by omega)
      simp at z
      let S' : Seqs := ⟨S.V, fun p => if p = loc.length then H else S.Hs p, S.T, S.Bn⟩
      have b1 : ∀ d, d < loc.length → loc[d]? = some (S'.V (loc.length - 1 - d)) ∧ ts[d]? = some (S'.T (loc.length - 1 - d)) ∧ bs[d]? = some (S'.Bn (loc.length - 1 - d)) := by
        intro d hd
        have := a1 (d + 1) (by omega)
        simp only [List.getElem?_cons_succ] at this
        have e : loc.length + 1 - 1 - (d + 1) = loc.length - 1 - d := by omega
        rw [e] at this
        exact this
      have hS' : ∀ p, loc.length < p → S'.Hs p = S.Hs p := fun p hp => by simp only [S']; rw [if_neg (by omega)]
      refine ⟨S', b1, by simp [S'], ?_, by simp only [List.length_cons]; omega, a5, ?_⟩
      · rw [hS' _ (by simp), ← a3]; congr 1; simp only [List.length_cons]; omega
      · intro q o' hq
        cases q with
        | zero =>
          simp at hq; subst hq
          exact hD S' z.1.symm z.2.1.symm z.2.2.symm (by simp [S']) (by rw [hS' _ (by omega)]; exact a2) b1
        | succ q =>
          simp at hq
          have e : loc.length + (q + 1) = loc.length + 1 + q := by omega
          rw [e]
          obtain ⟨loc', c1, c2, c3⟩ := a6 q o' hq
          refine ⟨loc', c1, c2, ?_⟩
          rw [hS' _ (by omega), hS' _ (by omega)]
          exact c3
    simp only [runDraw] at hr
    cases hg : guardOk env loc o.grd with
    | none => rw [hg] at hr; cases hr
    | some b =>
      rw [hg] at hr
      cases b with
      | false =>
        simp only at hr
        exact step _ _ _ _ hr fun S e1 e2 e3 e4 e5 hb => ⟨loc, rfl, fun d hd => (hb d hd).1, .inl ⟨hg, e1, by rw [e5, e4], e2, e3⟩⟩
      | true =>
        simp only at hr
        have xcase : isX o.o = true → (match opStep cl o.o (o.args.map (evalOpd env loc)) (hide (gather o.bef bs) H) with
            | some (.ok v H1) => if (gather o.bef ts).all (fun b => obEq H1[b]? (hide (gather o.bef bs) H)[b]?) then runDraw cl env l (v :: loc) (none :: ts) (none :: bs) (unhide (gather o.bef bs) H H1) else none
            | _ => none) = some (locn, Hn) → ∃ S : Seqs, (∀ d, d < loc.length → loc[d]? = some (S.V (loc.length - 1 - d)) ∧ ts[d]? = some (S.T (loc.length - 1 - d)) ∧ bs[d]? = some (S.Bn (loc.length - 1 - d))) ∧ S.Hs loc.length = H ∧ S.Hs (loc.length + (o :: l).length) = Hn ∧
          locn.length = loc.length + (o :: l).length ∧ (∀ d, d < locn.length → locn[d]? = some (S.V (locn.length - 1 - d))) ∧ ∀ q o', (o :: l)[q]? = some o' → DStep cl env S (loc.length + q) o' := by
          intro hx hr
          split at hr
          · rename_i v H1 hop
            split at hr
            · rename_i hk
              refine step _ _ _ _ hr fun S e1 e2 e3 e4 e5 hb => ⟨loc, rfl, fun d hd => (hb d hd).1, .inr (.inr (.inr ⟨hg, hx, gather o.bef bs, H1, ?_, ?_, by rw [e4]; have := op_len hcl hop; simpa [hide_len, Out.heap] using this, by rw [e4, e1]; exact hop, by rw [e5, e4], e2, e3⟩))⟩
              · intro b
                rw [mem_gather, h2]
                constructor
                · rintro ⟨q, q1, q2, q3⟩
                  have := (hb (loc.length - 1 - q) (by omega)).2.2
                  have e : loc.length - 1 - (loc.length - 1 - q) = q := by omega
                  rw [e, q2] at this
                  exact ⟨q, q1, by injection this with this; exact this.symm, q3⟩
                · rintro ⟨q, q1, q2, q3⟩
                  have := (hb (loc.length - 1 - q) (by omega)).2.2
                  have e : loc.length - 1 - (loc.length - 1 - q) = q := by omega
                  rw [e, q2] at this
                  exact ⟨q, q1, this, q3⟩
              · intro q b q1 q2 q3
                rw [e4]
                have := (hb (loc.length - 1 - q) (by omega)).2.1
                have e : loc.length - 1 - (loc.length - 1 - q) = q := by omega
                rw [e, q2] at this
                exact obEq_eq (List.all_eq_true.1 hk b ((mem_gather _ _ _).2 ⟨q, by rw [h1]; exact q1, by rw [h1]; exact this, q3⟩))
            · cases hr
          · cases hr
        cases hao : o.o with
        | N no =>
          rw [hao] at hr
          simp only at hr
          cases hn : nstep no (o.args.map (evalOpd env loc)) (fun b => H[b]?) with
          | none => rw [hn] at hr; cases hr
          | some r =>
            rw [hn] at hr
            cases r with
            | val v =>
              simp only at hr
              exact step _ _ _ _ hr fun S e1 e2 e3 e4 e5 hb => ⟨loc, rfl, fun d hd => (hb d hd).1, .inr (.inl ⟨hg, no, hao, by rw [e4, e1]; exact hn, by rw [e5, e4], e2, e3⟩)⟩
            | new ob mk =>
              simp only at hr
              exact step _ _ _ _ hr fun S e1 e2 e3 e4 e5 hb => ⟨loc, rfl, fun d hd => (hb d hd).1, .inr (.inr (.inl ⟨hg, no, ob, mk, hao, by rw [e4]; exact hn, by rw [e1, e4], by rw [e5, e4], e2, by rw [e3, e4]⟩))⟩
        | X xo => rw [hao] at hr xcase; exact xcase rfl hr
        | call f => rw [hao] at hr xcase; exact xcase rfl hr
        | calli tmp f => rw [hao] at hr xcase; exact xcase rfl hr
        | callv => rw [hao] at hr xcase; exact xcase rfl hr
        | callp f => rw [hao] at hr xcase; exact xcase rfl hr
        | panic => rw [hao] at hr xcase; exact xcase rfl hr
        | inv tbl => rw [hao] at hr xcase; exact xcase rfl hr
end Go.Ai
/- A row of operations whose order is open (part two): every order comes to what the one order comes to. -/
namespace Go.Ai
set_option linter.unusedSectionVars false
variable [DrMode]
set_option linter.unusedVariables false
set_option linter.unusedSimpArgs false

def posOf (L : List AOper) (i : Nat) : Nat := L.findIdx (·.ix == i)
def befOf (L : List AOper) (p : Nat) : Nat := match L[p]? with
  | some ao => ao.bef
  | none => 0
def dstAt (L : List AOper) (ops : Array Oper) (p : Nat) : Option Tmp := (L[p]?).bind fun ao => (ops[ao.ix]?).bind (·.dst)
def isXat (L : List AOper) (p : Nat) : Bool := match L[p]? with
  | some ao => isX ao.o
  | none => false
def edgesMask (L : List AOper) (o : Oper) : Nat := o.after.toList.foldl (fun s e => if Region.binds .any e then s ||| 2 ^ (posOf L e.on) ||| befOf L (posOf L e.on) else s) 0
def chkOpdD (names : List Tmp) (L : List AOper) (ops : Array Oper) (p : Nat) (x : Operand) (q : AOpd) : Bool :=
  match x with
  | .tmp t => (match q with
    | .n j => names[j]? == some t && (List.range L.length).all fun r => dstAt L ops r != some t || r == p || (befOf L r).testBit p
    | .l d => decide (d < p) && dstAt L ops (p - 1 - d) == some t && (befOf L p).testBit (p - 1 - d)
    | .c _ => false)
  | .const v => (match q with
    | .c a => sameV a v
    | _ => false)
  | .func f => (match q with
    | .c (.fn (.func f') [] []) => f == f'
    | _ => false)
  | .global _ => false
def chkOpdsD (names : List Tmp) (L : List AOper) (ops : Array Oper) (p : Nat) : List Operand → List AOpd → Bool
  | [], [] => true
  | x :: xs, q :: qs => chkOpdD names L ops p x q && chkOpdsD names L ops p xs qs
  | _, _ => false
def chkGuardD (names : List Tmp) (L : List AOper) (ops : Array Oper) (p : Nat) (g : Option (Nat × Bool)) (q : Option (AOpd × Bool)) : Bool :=
  match g with
  | none => q.isNone
  | some (j, want) => (match q with
    | some (r, want') => want == want' && (match (ops[j]?).bind (·.dst) with | some t => chkOpdD names L ops p (.tmp t) r | none => false)
    | none => false)
def chkAt (P : Program) (names : List Tmp) (nt : Nat) (L : List AOper) (ops : Array Oper) (p : Nat) : Bool :=
  match L[p]? with
  | none => false
  | some ao => match ops[ao.ix]? with
    | none => false
    | some o => chkOp P ao.o o.op && chkOpdsD names L ops p (oargs ao.o o.op) ao.args && chkGuardD names L ops p o.guard ao.grd && (match o.dst with | some t => decide (t < nt) | none => true) &&
        (ao.bef ||| edgesMask L o == edgesMask L o) && (o.after.toList.all fun e => !(Region.binds .any e) || decide (posOf L e.on < p)) &&
        ((List.range p).all fun q => !(isXat L q) || ao.bef.testBit q) && posOf L ao.ix == p &&
        ((List.range p).all fun q => match dstAt L ops q with | some t => o.dst != some t | none => true)
def chkDraw (P : Program) (names : List Tmp) (nt : Nat) (ops : Array Oper) (L : List AOper) : Bool :=
  L.length == ops.size && ((List.range ops.size).all fun i => decide (posOf L i < L.length)) && (List.range L.length).all fun p => chkAt P names nt L ops p

/-- What the check tells of the p-th operation. -/
structure At1 (P : Program) (names : List Tmp) (nt : Nat) (L : List AOper) (ops : Array Oper) (p : Nat) (ao : AOper) (o : Oper) : Prop where
  get : L[p]? = some ao
  op : ops[ao.ix]? = some o
  chk : chkOp P ao.o o.op = true
  args : chkOpdsD names L ops p (oargs ao.o o.op) ao.args = true
  grd : chkGuardD names L ops p o.guard ao.grd = true
  dst : ∀ t, o.dst = some t → t < nt
  mask : ao.bef ||| edgesMask L o = edgesMask L o
  edge : ∀ e ∈ o.after, Region.binds .any e = true → posOf L e.on < p
  xs : ∀ q, q < p → isXat L q = true → ao.bef.testBit q = true
  pos : posOf L ao.ix = p
  one : ∀ q t, q < p → dstAt L ops q = some t → o.dst ≠ some t
theorem chkAt_spec {P : Program} {names : List Tmp} {nt : Nat} {L : List AOper} {ops : Array Oper} {p : Nat} (h : chkAt P names nt L ops p = true) : ∃ ao o, At1 P names nt L ops p ao o := by
  unfold chkAt at h
  split at h
  · cases h
  · rename_i ao hao
    split at h
    · cases h
    · rename_i o ho
      simp only [Bool.and_eq_true, beq_iff_eq] at h
      obtain ⟨⟨⟨⟨⟨⟨⟨⟨h1, h2⟩, h3⟩, h4⟩, h5⟩, h6⟩, h7⟩, h8⟩, h9⟩ := h
      refine ⟨ao, o, hao, ho, h1, h2, h3, fun t e => by rw [e] at h4; simpa using h4, h5, ?_, ?_, h8, ?_⟩
      · intro e he hb
        have := List.all_eq_true.1 h6 e (by simpa using he)
        simpa [hb] using this
      · intro q hq hx
        have := List.all_eq_true.1 h7 q (by simpa using hq)
        simpa [hx] using this
      · intro q t hq hd
        have := List.all_eq_true.1 h9 q (by simpa using hq)
        rw [hd] at this
        simpa using this

theorem mask_bit (L : List AOper) : ∀ (es : List Edge) (s : Nat) (q : Nat), (es.foldl (fun s e => if Region.binds .any e then s ||| 2 ^ (posOf L e.on) ||| befOf L (posOf L e.on) else s) s).testBit q = true →
    s.testBit q = true ∨ ∃ e ∈ es, Region.binds .any e = true ∧ (posOf L e.on = q ∨ (befOf L (posOf L e.on)).testBit q = true) := by
  intro es
  induction es with
  | nil => intro s q h; exact .inl h
  | cons e es ih =>
    intro s q h
    simp only [List.foldl_cons] at h
    rcases ih _ q h with h | ⟨e', he', h1, h2⟩
    · by_cases hb : Region.binds .any e = true
      · rw [if_pos hb] at h
        rw [Nat.testBit_or, Nat.testBit_or, Bool.or_eq_true, Bool.or_eq_true] at h
        rcases h with (h | h) | h
        · exact .inl h
        · rw [Nat.testBit_two_pow] at h
          exact .inr ⟨e, by simp, hb, .inl (by simpa using h)⟩
        · exact .inr ⟨e, by simp, hb, .inr h⟩
      · rw [if_neg hb] at h; exact .inl h
    · exact .inr ⟨e', by simp [he'], h1, h2⟩
theorem or_bit {x y q : Nat} (h : x ||| y = y) (hx : x.testBit q = true) : y.testBit q = true := by rw [← h, Nat.testBit_or, hx]; rfl

def hidB (S : Seqs) (D : Nat → Bool) (x b : Nat) : Bool := (List.range x).any fun q => !D q && S.Bn q == some b
def hideB (f : Nat → Bool) (H : Heap) : Heap := H.mapIdx fun b o => if f b then .dead else o
theorem hideB_get (f : Nat → Bool) (H : Heap) (b : Nat) : (hideB f H)[b]? = (H[b]?).map fun o => if f b then .dead else o := by simp [hideB, List.getElem?_mapIdx]
theorem hideB_len (f : Nat → Bool) (H : Heap) : (hideB f H).length = H.length := by simp [hideB]
theorem hidB_iff {S : Seqs} {D : Nat → Bool} {x b : Nat} : hidB S D x b = true ↔ ∃ q, q < x ∧ D q = false ∧ S.Bn q = some b := by
  simp [hidB, List.any_eq_true]
theorem hideB_live {f : Nat → Bool} {H : Heap} {b : Nat} {o : Ob} (h : (hideB f H)[b]? = some o) (hd : o ≠ .dead) : H[b]? = some o ∧ f b = false := by
  rw [hideB_get] at h
  cases hb : H[b]? with
  | none => rw [hb] at h; cases h
  | some o' =>
    rw [hb] at h
    simp only [Option.map_some, Option.some.injEq] at h
    cases hf : f b with
    | true => rw [hf] at h; simp at h; exact absurd h.symm hd
    | false => rw [hf] at h; simp at h; exact ⟨by rw [h], rfl⟩
theorem hideB_vis {f : Nat → Bool} {H : Heap} {b : Nat} {o : Ob} (h : H[b]? = some o) (hf : f b = false) : (hideB f H)[b]? = some o := by
  rw [hideB_get, h]; simp [hf]

/-! ### Facts on the one order's memory -/
section canon
variable {P : Program} {cl : Caller} {env : List AV} {S : Seqs} {L : List AOper} {ops : Array Oper} {names : List Tmp} {nt : Nat}
theorem step_len (hS : ∀ q o, L[q]? = some o → DStep cl env S q o) {p : Nat} (hp : p < L.length) : (S.Hs p).length ≤ (S.Hs (p + 1)).length := by
  obtain ⟨loc, _, _, h⟩ := hS p _ (List.getElem?_eq_getElem hp)
  rcases h with ⟨_, _, e, _⟩ | ⟨_, _, _, _, e, _⟩ | ⟨_, _, _, _, _, _, _, e, _⟩ | ⟨_, _, _, _, _, _, h1, _, e, _⟩
  · rw [e]; exact Nat.le_refl _
  · rw [e]; exact Nat.le_refl _
  · rw [e]; simp
  · rw [e, unhide_len]; exact h1
theorem len_mono (hS : ∀ q o, L[q]? = some o → DStep cl env S q o) {p : Nat} : ∀ {r : Nat}, p ≤ r → r ≤ L.length → (S.Hs p).length ≤ (S.Hs r).length := by
  intro r h
  induction r with
  | zero => intro _; have : p = 0 := by omega
            subst this; exact Nat.le_refl _
  | succ r ih =>
    intro hr
    by_cases e : p = r + 1
    · subst e; exact Nat.le_refl _
    · exact Nat.le_trans (ih (by omega) (by omega)) (step_len hS (by omega))
theorem born_at (hS : ∀ q o, L[q]? = some o → DStep cl env S q o) {q b : Nat} (hq : q < L.length) (h : S.Bn q = some b) : b = (S.Hs q).length ∧ (S.Hs (q + 1)).length = b + 1 := by
  obtain ⟨loc, _, _, h'⟩ := hS q _ (List.getElem?_eq_getElem hq)
  rcases h' with ⟨_, _, _, _, e⟩ | ⟨_, _, _, _, _, _, e⟩ | ⟨_, _, _, _, _, _, _, e1, _, e⟩ | ⟨_, _, _, _, _, _, _, _, _, _, e⟩
  · rw [e] at h; cases h
  · rw [e] at h; cases h
  · rw [e] at h; cases h; exact ⟨rfl, by rw [e1]; simp⟩
  · rw [e] at h; cases h
/-- What was born by an operation that has not run stays as it was born. -/
theorem born_keep (hS : ∀ q o, L[q]? = some o → DStep cl env S q o) {D : Nat → Bool} {q b p x : Nat} (hb : S.Bn q = some b) (hD : D q = false) (hx : x ≤ L.length)
    (hdown : ∀ p r, p < L.length → D p = true → (befOf L p).testBit r = true → r < L.length → D r = true) (hdone : ∀ p, p < x → isXat L p = true → D p = true) (hqp : q < p) (hpx : p ≤ x) : (S.Hs p)[b]? = (S.Hs (q + 1))[b]? := by
  induction p with
  | zero => omega
  | succ p ih =>
    by_cases e : p = q
    · subst e; rfl
    · have ih := ih (by omega) (by omega)
      rw [← ih]
      have hlt : b < (S.Hs p).length := by
        have := (born_at hS (by omega) hb).2
        have := len_mono hS (p := q + 1) (r := p) (by omega) (by omega)
        omega
      have hL : L[p]? = some L[p] := List.getElem?_eq_getElem (by omega)
      obtain ⟨loc, _, _, h'⟩ := hS p _ hL
      rcases h' with ⟨_, _, e1, _, _⟩ | ⟨_, _, _, _, e1, _⟩ | ⟨_, _, _, _, _, _, _, e1, _, _⟩ | ⟨_, hX, hid, H1, hh, _, hl, _, e1, _, _⟩
      · rw [e1]
      · rw [e1]
      · rw [e1, List.getElem?_append_left hlt]
      · rw [e1, unhide_get _ _ _ _ hl hlt, if_pos]
        have hDp := hdone p (by omega) (by simp [isXat, hL, hX])
        refine (hh b).2 ⟨q, by omega, hb, ?_⟩
        cases ht : (L[p].bef).testBit q with
        | false => rfl
        | true =>
          have := hdown p q (by omega) hDp (by simp [befOf, hL, ht]) (by omega)
          rw [hD] at this; cases this
/-- What an operation that has not run is going to read stays as it was. -/
theorem touch_keep (hS : ∀ q o, L[q]? = some o → DStep cl env S q o) {D : Nat → Bool} {q b p x : Nat} (ht : S.T q = some b) (hD : D q = false) (hlb : b < (S.Hs q).length) (hx : x ≤ L.length)
    (hdown : ∀ p r, p < L.length → D p = true → (befOf L p).testBit r = true → r < L.length → D r = true) (hdone : ∀ p, p < x → isXat L p = true → D p = true) (hqp : q < p) (hpx : p ≤ x) : (S.Hs p)[b]? = (S.Hs q)[b]? := by
  induction p with
  | zero => omega
  | succ p ih =>
    have hL : L[p]? = some L[p] := List.getElem?_eq_getElem (by omega)
    obtain ⟨loc, _, _, h'⟩ := hS p _ hL
    by_cases e : p = q
    · subst e
      rcases h' with ⟨_, _, e1, e2, _⟩ | ⟨_, _, _, _, e1, _⟩ | ⟨_, _, _, _, _, _, _, e1, e2, _⟩ | ⟨_, hX, hid, H1, hh, _, hl, _, e1, e2, _⟩
      · rw [e2] at ht; cases ht
      · rw [e1]
      · rw [e2] at ht; cases ht
      · rw [e2] at ht; cases ht
    · have ih := ih (by omega) (by omega)
      rw [← ih]
      have hlt : b < (S.Hs p).length := by
        have := len_mono hS (p := q) (r := p) (by omega) (by omega)
        omega
      rcases h' with ⟨_, _, e1, _, _⟩ | ⟨_, _, _, _, e1, _⟩ | ⟨_, _, _, _, _, _, _, e1, _, _⟩ | ⟨_, hX, hid, H1, hh, hk, hl, _, e1, _, _⟩
      · rw [e1]
      · rw [e1]
      · rw [e1, List.getElem?_append_left hlt]
      · rw [e1, unhide_get _ _ _ _ hl hlt]
        have hDp := hdone p (by omega) (by simp [isXat, hL, hX])
        have hbit : (L[p].bef).testBit q = false := by
          cases ht : (L[p].bef).testBit q with
          | false => rfl
          | true =>
            have := hdown p q (by omega) hDp (by simp [befOf, hL, ht]) (by omega)
            rw [hD] at this; cases this
        by_cases hbh : b ∈ hid
        · rw [if_pos hbh]
        · rw [if_neg hbh, hk q b (by omega) ht hbit, hide_get, if_neg (fun h => hbh h.1)]
/-- Between two writing operations memory only grows. -/
theorem calm_keep (hS : ∀ q o, L[q]? = some o → DStep cl env S q o) {y x' b : Nat} (hb : b < (S.Hs y).length) (hx : x' ≤ L.length) (hno : ∀ p, y ≤ p → p < x' → isXat L p = false) (hyx : y ≤ x') : (S.Hs x')[b]? = (S.Hs y)[b]? := by
  induction x' with
  | zero => have : y = 0 := by omega
            subst this; rfl
  | succ p ih =>
    by_cases e : y = p + 1
    · subst e; rfl
    · rw [← ih (by omega) (fun q h1 h2 => hno q h1 (by omega)) (by omega)]
      have hlt : b < (S.Hs p).length := by
        have := len_mono hS (p := y) (r := p) (by omega) (by omega)
        omega
      have hL : L[p]? = some L[p] := List.getElem?_eq_getElem (by omega)
      obtain ⟨loc, _, _, h'⟩ := hS p _ hL
      rcases h' with ⟨_, _, e1, _, _⟩ | ⟨_, _, _, _, e1, _⟩ | ⟨_, _, _, _, _, _, _, e1, _, _⟩ | ⟨_, hX, _⟩
      · rw [e1]
      · rw [e1]
      · rw [e1, List.getElem?_append_left hlt]
      · have := hno p (by omega) (by omega)
        simp [isXat, hL, hX] at this
/-- What is new between two writing operations was born there. -/
theorem calm_new (hS : ∀ q o, L[q]? = some o → DStep cl env S q o) {y x' b : Nat} (hb : (S.Hs y).length ≤ b) (hx : x' ≤ L.length) (hno : ∀ p, y ≤ p → p < x' → isXat L p = false) (hyx : y ≤ x') (hlt : b < (S.Hs x').length) : ∃ q, y ≤ q ∧ q < x' ∧ S.Bn q = some b := by
  induction x' with
  | zero => have : y = 0 := by omega
            subst this; omega
  | succ p ih =>
    by_cases e : y = p + 1
    · subst e; omega
    · have hL : L[p]? = some L[p] := List.getElem?_eq_getElem (by omega)
      by_cases hp : b < (S.Hs p).length
      · obtain ⟨q, q1, q2, q3⟩ := ih (by omega) (fun q h1 h2 => hno q h1 (by omega)) (by omega) hp
        exact ⟨q, q1, by omega, q3⟩
      · obtain ⟨loc, _, _, h'⟩ := hS p _ hL
        rcases h' with ⟨_, _, e1, _, _⟩ | ⟨_, _, _, _, e1, _⟩ | ⟨_, _, _, _, _, _, _, e1, _, e2⟩ | ⟨_, hX, _⟩
        · rw [e1] at hlt; omega
        · rw [e1] at hlt; omega
        · rw [e1] at hlt
          simp at hlt
          exact ⟨p, by omega, by omega, by rw [e2]; congr 1; omega⟩
        · have := hno p (by omega) (by omega)
          simp [isXat, hL, hX] at this
end canon
end Go.Ai
/- A row of operations whose order is open (part three): every order comes to what the one order comes to. -/
namespace Go.Ai
set_option linter.unusedSectionVars false
variable [DrMode]
set_option linter.unusedVariables false
set_option linter.unusedSimpArgs false

/-- A dead object comes to life: what it names has just been made. -/
theorem HR.reveal {B : Nat} {μ : Mu} {H H' : Heap} {w : World} {b : Nat} {ob : Ob} {a : At} (h : HR B μ H w) (hb : H[b]? = some .dead) (hn : ∀ g, μ b g = none) (o : Obj) (hg : ob.gen = 0) (hd : ob ≠ .dead) (hblk : a.blk = w.heap.size)
    (hob : obR B (μ.set b 0 a) (w.alloc o) a ob) (hl : H'.length = H.length) (hb' : H'[b]? = some ob) (hoth : ∀ c, c ≠ b → H'[c]? = H[c]?) : HR B (μ.set b 0 a) H' (w.alloc o) := by
  have hle := Mu.le_set (μ := μ) a (hn 0)
  have hmu : ∀ c g, c ≠ b → (μ.set b 0 a) c g = μ c g := fun c g hne => Mu.set_other _ _ (fun e => hne e.1)
  have hheap : ∀ k, k < w.heap.size → (w.alloc o).heap[k]? = w.heap[k]? := fun k hk => heap_alloc_old w o k hk
  refine ⟨?_, ?_, ?_, ?_, ?_, ?_, ?_⟩
  · intro c o' hc hd'
    by_cases e : c = b
    · subst e; rw [hb'] at hc; cases hc; rw [hg]; exact ⟨a, Mu.set_same _ _ _ _, hob⟩
    · rw [hoth c e] at hc
      obtain ⟨a', ha', hr'⟩ := h.ob c o' hc hd'
      exact ⟨a', hle _ _ _ ha', hr'.keep hle (hheap _ (hr'.lt hd')) (by simp)⟩
  · intro c c' o1 o2 a1 a2 hc hc' hne hr hd2 ha1 ha2
    have hd1 : o1 ≠ .dead := fun e => by rw [e] at hr; simp [Ob.rw] at hr
    by_cases e : c = b
    · subst e
      rw [hb'] at hc; cases hc
      rw [hg, Mu.set_same] at ha1; cases ha1
      rw [hoth c' (fun e => hne e.symm)] at hc'
      rw [hmu _ _ (fun e => hne e.symm)] at ha2
      obtain ⟨a', ha', hr'⟩ := h.ob c' o2 hc' hd2
      rw [ha'] at ha2; cases ha2
      have := hr'.lt hd2; omega
    · rw [hoth c e] at hc
      rw [hmu _ _ e] at ha1
      by_cases e' : c' = b
      · subst e'
        rw [hb'] at hc'; cases hc'
        rw [hg, Mu.set_same] at ha2; cases ha2
        obtain ⟨a', ha', hr'⟩ := h.ob c o1 hc hd1
        rw [ha'] at ha1; cases ha1
        have := hr'.lt hd1; omega
      · rw [hoth c' e'] at hc'
        rw [hmu _ _ e'] at ha2
        exact h.sep c c' o1 o2 a1 a2 hc hc' hne hr hd2 ha1 ha2
  · intro c o' g a' hc hd' ha'
    by_cases e : c = b
    · subst e
      by_cases hg0 : g = 0
      · omega
      · rw [Mu.set_other _ _ (fun e => hg0 e.2), hn] at ha'; cases ha'
    · rw [hoth c e] at hc; rw [hmu _ _ e] at ha'; exact h.gen c o' g a' hc hd' ha'
  · intro c g hc
    have hlt : b < H.length := (List.getElem?_eq_some_iff.1 hb).1
    rw [hmu _ _ (by omega)]; exact h.fresh c g (by omega)
  · have := h.base; simp; omega
  · intro k j u hu
    obtain ⟨h1, h2⟩ := h.im k j u hu
    exact ⟨by simp; omega, by rw [cell?_same (hheap k h1)]; exact h2⟩
  · intro c o' a' k j u hc hr ha' hu
    obtain ⟨h1, _⟩ := h.im k j u hu
    by_cases e : c = b
    · subst e
      rw [hb'] at hc; cases hc
      rw [hg, Mu.set_same] at ha'; cases ha'; omega
    · rw [hoth c e] at hc; rw [hmu _ _ e] at ha'; exact h.imsep c o' a' k j u hc hr ha' hu
theorem Ext.reveal {H0 H H' : Heap} {μ0 μ : Mu} {w0 w : World} {b : Nat} {ob : Ob} {a : At} (h : Ext H0 H μ0 μ w0 w) (hb : H0.length ≤ b) (hn : μ b 0 = none) (o : Obj) (hblk : a.blk = w.heap.size) (hg : ob.gen = 0) (hl : H'.length = H.length) (hb' : H'[b]? = some ob)
    (hoth : ∀ c, c ≠ b → H'[c]? = H[c]?) : Ext H0 H' μ0 (μ.set b 0 a) w0 (w.alloc o) where
  le := Mu.le_trans h.le (Mu.le_set a hn)
  len := by rw [hl]; exact h.len
  calm c o' hc hr := by
    have hlt : c < H0.length := (List.getElem?_eq_some_iff.1 hc).1
    obtain ⟨h1, h2⟩ := h.calm c o' hc hr
    exact ⟨by rw [hoth c (by omega)]; exact h1, fun g => by rw [Mu.set_other _ _ (by rintro ⟨e, _⟩; omega)]; exact h2 g⟩
  blk c o1 a1 hc hd ha := by
    by_cases e : c = b
    · subst e
      rw [hb'] at hc; cases hc
      rw [hg, Mu.set_same] at ha; cases ha
      left; have := h.size; omega
    · rw [hoth c e] at hc
      rw [Mu.set_other _ _ (fun e' => e e'.1)] at ha
      exact h.blk c o1 a1 hc hd ha
  frame k hk hne := by
    rw [heap_alloc_old w o k (Nat.lt_of_lt_of_le hk h.size)]
    exact h.frame k hk hne
  size := by have := h.size; simp; omega
  os := h.os
  tape := h.tape
  output := h.output
  drawn := h.drawn
  im := h.im

/-- Behind a step that was made with objects hidden: those that are ours to see are as they were. H: all; Hh: with the hidden ones dead; H1: what the step left; K: H1, and of the hidden ones those that 'vis' lets. -/
theorem HR.back {B : Nat} {μ ν : Mu} {H Hh H1 K : Heap} {w w' : World} {hid : Nat → Prop} (hH : HR B μ H w) (h1 : HR B ν H1 w') (hx : Ext Hh H1 μ ν w w') (hHl : Hh.length = H.length)
    (hhid : ∀ b, hid b → b < H.length → Hh[b]? = some .dead) (hvis : ∀ (b : Nat) o, Hh[b]? = some o → o ≠ .dead → H[b]? = some o) (hK : K.length = H1.length)
    (hK1 : ∀ (b : Nat) o, K[b]? = some o → o ≠ .dead → (¬ hid b ∧ H1[b]? = some o) ∨ (hid b ∧ H[b]? = some o)) : HR B ν K w' := by
  have hkeep : ∀ (b : Nat) o a, hid b → H[b]? = some o → o ≠ .dead → μ b o.gen = some a → w'.heap[a.blk]? = w.heap[a.blk]? ∧ a.blk < w.heap.size := by
    intro b o a hb ho hd ha
    obtain ⟨a', ha', hr'⟩ := hH.ob b o ho hd
    rw [ha'] at ha; cases ha
    have hlt := hr'.lt hd
    refine ⟨hx.frame _ hlt ?_, hlt⟩
    intro c oc ac hc hrw hac e
    have hdc : oc ≠ .dead := fun e => by rw [e] at hrw; simp [Ob.rw] at hrw
    have hne : c ≠ b := by
      intro e'; subst e'
      rw [hhid c hb (List.getElem?_eq_some_iff.1 ho).1] at hc; cases hc; exact hdc rfl
    exact hH.sep c b oc o ac _ (hvis c oc hc hdc) ho hne hrw hd hac ha' e
  have hnu : ∀ b g, hid b → b < H.length → ν b g = μ b g := fun b g hb hl => (hx.calm b .dead (hhid b hb hl) rfl).2 g
  have hsepA : ∀ (b c : Nat) o oc a ac, H1[b]? = some o → o ≠ .dead → ν b o.gen = some a → hid c → H[c]? = some oc → oc ≠ .dead → μ c oc.gen = some ac → (o.rw = true ∨ oc.rw = true) → ¬ hid b → a.blk ≠ ac.blk := by
    intro b c o oc a ac hb hd ha hc hoc hdc hac hrw hnb
    have hlt := (hkeep c oc ac hc hoc hdc hac).2
    rcases hx.blk b o a hb hd ha with h | ⟨o', a', e1, e2, e3, e4, e5⟩
    · omega
    · have hne : b ≠ c := fun e => hnb (by rw [e]; exact hc)
      have ho' := hvis b o' e1 e2
      intro e
      rcases hrw with hrw | hrw
      · exact hH.sep b c o' oc a' ac ho' hoc hne (e3 hrw) hdc e4 hac (by rw [e5]; exact e)
      · exact hH.sep c b oc o' ac a' hoc ho' (fun e => hne e.symm) hrw e2 hac e4 (by rw [e5]; exact e.symm)
  refine ⟨?_, ?_, ?_, fun b g hb => h1.fresh b g (by rw [← hK]; exact hb), h1.base, h1.im, ?_⟩
  · intro b o hb hd
    rcases hK1 b o hb hd with ⟨_, h⟩ | ⟨hh, h⟩
    · exact h1.ob b o h hd
    · obtain ⟨a, ha, hr⟩ := hH.ob b o h hd
      exact ⟨a, by rw [hnu _ _ hh (List.getElem?_eq_some_iff.1 h).1]; exact ha, hr.keep hx.le (hkeep b o a hh h hd ha).1 hx.size⟩
  · intro b c o oc a ac hb hc hne hrw hdc ha hac
    have hd : o ≠ .dead := fun e => by rw [e] at hrw; simp [Ob.rw] at hrw
    rcases hK1 b o hb hd with ⟨n1, h⟩ | ⟨hh, h⟩
    · rcases hK1 c oc hc hdc with ⟨n2, k⟩ | ⟨kk, k⟩
      · exact h1.sep b c o oc a ac h k hne hrw hdc ha hac
      · rw [hnu _ _ kk (List.getElem?_eq_some_iff.1 k).1] at hac
        exact hsepA b c o oc a ac h hd ha kk k hdc hac (.inl hrw) n1
    · rw [hnu _ _ hh (List.getElem?_eq_some_iff.1 h).1] at ha
      rcases hK1 c oc hc hdc with ⟨n2, k⟩ | ⟨kk, k⟩
      · exact fun e => hsepA c b oc o ac a k hdc hac hh h hd ha (.inr hrw) n2 e.symm
      · rw [hnu _ _ kk (List.getElem?_eq_some_iff.1 k).1] at hac
        exact hH.sep b c o oc a ac h k hne hrw hdc ha hac
  · intro b o g a hb hd ha
    rcases hK1 b o hb hd with ⟨_, h⟩ | ⟨hh, h⟩
    · exact h1.gen b o g a h hd ha
    · rw [hnu _ _ hh (List.getElem?_eq_some_iff.1 h).1] at ha
      exact hH.gen b o g a h hd ha
  · intro b o a k j u hb hrw ha hu
    have hd : o ≠ .dead := fun e => by rw [e] at hrw; simp [Ob.rw] at hrw
    rcases hK1 b o hb hd with ⟨_, h⟩ | ⟨hh, h⟩
    · exact h1.imsep b o a k j u h hrw ha hu
    · rw [hnu _ _ hh (List.getElem?_eq_some_iff.1 h).1] at ha
      have hlt := (hkeep b o a hh h hd ha).2
      rcases hx.im k j u hu with e | e | ⟨c, oc, ac, hc, hrc, hac, e⟩
      · exact hH.imsep b o a k j u h hrw ha e
      · omega
      · have hdc : oc ≠ .dead := fun e => by rw [e] at hrc; simp [Ob.rw] at hrc
        have hne : b ≠ c := by
          intro e'; subst e'
          rw [hhid b hh (List.getElem?_eq_some_iff.1 h).1] at hc; cases hc; exact hdc rfl
        rw [← e]
        exact hH.sep b c o oc a ac h (hvis c oc hc hdc) hne hrw hdc ha hac
theorem Ext.back {H0 : Heap} {μ0 μ ν : Mu} {H Hh H1 K : Heap} {w0 w w' : World} {hid : Nat → Prop} (h : Ext H0 H μ0 μ w0 w) (hx : Ext Hh H1 μ ν w w') (hHl : Hh.length = H.length)
    (hhid : ∀ b, hid b → b < H.length → Hh[b]? = some .dead) (hge : ∀ b, hid b → H0.length ≤ b) (hvis : ∀ (b : Nat) o, Hh[b]? = some o → o ≠ .dead → H[b]? = some o) (hvis' : ∀ (b : Nat), ¬ hid b → b < H0.length → Hh[b]? = H[b]?) (hK : H1.length ≤ K.length)
    (hK1 : ∀ (b : Nat) o, K[b]? = some o → o ≠ .dead → (¬ hid b ∧ H1[b]? = some o) ∨ (hid b ∧ H[b]? = some o)) (hK2 : ∀ (b : Nat), b < H0.length → K[b]? = H1[b]?) : Ext H0 K μ0 ν w0 w' where
  le := Mu.le_trans h.le hx.le
  len := by have := h.len; have := hx.len; omega
  calm b o hb hr := by
    have hlt : b < H0.length := (List.getElem?_eq_some_iff.1 hb).1
    obtain ⟨h1, h2⟩ := h.calm b o hb hr
    have hn : ¬ hid b := fun e => by have := hge b e; omega
    obtain ⟨k1, k2⟩ := hx.calm b o (by rw [hvis' b hn hlt]; exact h1) hr
    exact ⟨by rw [hK2 b hlt]; exact k1, fun g => (k2 g).trans (h2 g)⟩
  blk b o1 a hb hd ha := by
    rcases hK1 b o1 hb hd with ⟨_, e⟩ | ⟨hh, e⟩
    · rcases hx.blk b o1 a e hd ha with h' | ⟨o', a', e1, e2, e3, e4, e5⟩
      · exact .inl (Nat.le_trans h.size h')
      · rcases h.blk b o' a' (hvis b o' e1 e2) e2 e4 with h' | ⟨o2, a2, f1, f2, f3, f4, f5⟩
        · exact .inl (by rw [← e5]; exact h')
        · exact .inr ⟨o2, a2, f1, f2, fun h => f3 (e3 h), f4, f5.trans e5⟩
    · have : ν b o1.gen = μ b o1.gen := (hx.calm b .dead (hhid b hh (List.getElem?_eq_some_iff.1 e).1) rfl).2 _
      rw [this] at ha
      exact h.blk b o1 a e hd ha
  frame k hk hne := by
    rw [hx.frame k (Nat.lt_of_lt_of_le hk h.size) ?_, h.frame k hk hne]
    intro b o a hb hrw ha e
    have hd : o ≠ .dead := fun e => by rw [e] at hrw; simp [Ob.rw] at hrw
    rcases h.blk b o a (hvis b o hb hd) hd ha with h' | ⟨o2, a2, f1, f2, f3, f4, f5⟩
    · omega
    · exact hne b o2 a2 f1 (f3 hrw) f4 (f5.trans e)
  size := Nat.le_trans h.size hx.size
  os := hx.os.trans h.os
  tape := hx.tape.trans h.tape
  output := hx.output.trans h.output
  drawn hm := Nat.le_trans (h.drawn hm) (hx.drawn hm)
  im k j u hu := by
    rcases hx.im k j u hu with e | e | ⟨c, oc, ac, hc, hrc, hac, e⟩
    · exact h.im k j u e
    · exact .inr (.inl (Nat.le_trans h.size e))
    · have hdc : oc ≠ .dead := fun e => by rw [e] at hrc; simp [Ob.rw] at hrc
      rcases h.blk c oc ac (hvis c oc hc hdc) hdc hac with h' | ⟨o2, a2, f1, f2, f3, f4, f5⟩
      · exact .inr (.inl (by omega))
      · exact .inr (.inr ⟨c, o2, a2, f1, f3 hrc, f4, f5.trans e⟩)
end Go.Ai
/- A row of operations whose order is open (part four): every order comes to what the one order comes to. -/
namespace Go.Ai
set_option linter.unusedSectionVars false
variable [DrMode]
set_option linter.unusedVariables false
set_option linter.unusedSimpArgs false

section main
variable {P : Program} {cl : Caller} {env : List AV} {S : Seqs} {L : List AOper} {ops : Array Oper} {names : List Tmp} {nt : Nat} {ds : List Deferred} {B : Nat} {H0 : Heap} {μ0 : Mu} {w0 : World}

/-- What holds when the operations of D have run; x: the first writing one that has not. -/
structure DI (P : Program) (env : List AV) (S : Seqs) (L : List AOper) (ops : Array Oper) (names : List Tmp) (nt : Nat) (ds : List Deferred) (B : Nat) (H0 : Heap) (μ0 : Mu) (w0 : World) (D : Nat → Bool) (x : Nat) (a : Act) (w : World) (μ : Mu) : Prop where
  down : ∀ p r, p < L.length → D p = true → (befOf L p).testBit r = true → r < L.length → D r = true
  xle : x ≤ L.length
  below : ∀ p, p < L.length → D p = true → p < x
  done : ∀ p, p < x → isXat L p = true → D p = true
  next : x < L.length → isXat L x = true ∧ D x = false
  hr : HR B μ (hideB (hidB S D x) (S.Hs x)) w
  ext : Ext H0 (hideB (hidB S D x) (S.Hs x)) μ0 μ w0 w
  unborn : ∀ q b g, q < x → D q = false → S.Bn q = some b → μ b g = none
  size : a.tmps.size = nt
  defers : a.defers = ds
  named : ∀ (j : Nat) t, names[j]? = some t → (∀ q, q < L.length → D q = true → dstAt L ops q ≠ some t) → VR μ (env.getD j .un) (a.tmps.getD t undef)
  vals : ∀ q t, q < L.length → D q = true → dstAt L ops q = some t → VR μ (S.V q) (a.tmps.getD t undef)

theorem DI.opd {D : Nat → Bool} {x p : Nat} {a : Act} {w : World} {μ : Mu} {o : Oper} {ao : AOper} {loc : List AV} (h : DI P env S L ops names nt ds B H0 μ0 w0 D x a w μ) (h1 : At1 P names nt L ops p ao o) (hp : p < L.length) (hD : D p = false) (hready : ∀ q, (befOf L p).testBit q = true → q < L.length → D q = true)
    (hl : loc.length = p) (hloc : ∀ d, d < p → loc[d]? = some (S.V (p - 1 - d))) {y : Operand} {q : AOpd} (hc : chkOpdD names L ops p y q = true) : VR μ (evalOpd env loc q) (a.eval y) := by
  cases y with
  | tmp t =>
    cases q with
    | n j =>
      simp only [chkOpdD, Bool.and_eq_true, beq_iff_eq] at hc
      refine h.named j t hc.1 fun r hr hDr e => ?_
      have := List.all_eq_true.1 hc.2 r (by simpa using hr)
      simp only [e, Bool.or_eq_true, bne_self_eq_false, beq_iff_eq, Bool.false_eq_true, false_or] at this
      rcases this with e' | e'
      · subst e'; rw [hD] at hDr; cases hDr
      · have := h.down r p hr hDr e' hp
        rw [hD] at this; cases this
    | l d =>
      simp only [chkOpdD, Bool.and_eq_true, beq_iff_eq, decide_eq_true_eq] at hc
      obtain ⟨⟨c1, c2⟩, c3⟩ := hc
      have hbef : befOf L p = ao.bef := by simp [befOf, h1.get]
      have := h.vals (p - 1 - d) t (by omega) (hready _ c3 (by omega)) c2
      simp only [evalOpd]
      rw [List.getD_eq_getElem?_getD, hloc d c1]
      exact this
    | c v => simp [chkOpdD] at hc
  | const v =>
    cases q <;> simp [chkOpdD] at hc
    exact sameV_spec μ _ _ hc
  | func f =>
    simp only [chkOpdD] at hc
    split at hc
    · simp only [beq_iff_eq] at hc; subst hc
      exact .fn (first' := []) (cap' := []) rfl (by simp) rfl (by simp)
    · cases hc
  | global g => simp [chkOpdD] at hc
theorem DI.opds {D : Nat → Bool} {x p : Nat} {a : Act} {w : World} {μ : Mu} {o : Oper} {ao : AOper} {loc : List AV} (h : DI P env S L ops names nt ds B H0 μ0 w0 D x a w μ) (h1 : At1 P names nt L ops p ao o) (hp : p < L.length) (hD : D p = false) (hready : ∀ q, (befOf L p).testBit q = true → q < L.length → D q = true)
    (hl : loc.length = p) (hloc : ∀ d, d < p → loc[d]? = some (S.V (p - 1 - d))) : ∀ {ys : List Operand} {qs : List AOpd}, chkOpdsD names L ops p ys qs = true → VRs μ (qs.map (evalOpd env loc)) (ys.map a.eval)
  | [], [], _ => .nil μ
  | y :: ys, q :: qs, hc => by simp only [chkOpdsD, Bool.and_eq_true] at hc; exact .cons (h.opd h1 hp hD hready hl hloc hc.1) (h.opds h1 hp hD hready hl hloc hc.2)
  | [], _ :: _, hc => by simp [chkOpdsD] at hc
  | _ :: _, [], hc => by simp [chkOpdsD] at hc
theorem DI.guard {D : Nat → Bool} {x p : Nat} {a : Act} {w : World} {μ : Mu} {o : Oper} {ao : AOper} {loc : List AV} {b : Bool} (h : DI P env S L ops names nt ds B H0 μ0 w0 D x a w μ) (h1 : At1 P names nt L ops p ao o) (hp : p < L.length) (hD : D p = false) (hready : ∀ q, (befOf L p).testBit q = true → q < L.length → D q = true)
    (hl : loc.length = p) (hloc : ∀ d, d < p → loc[d]? = some (S.V (p - 1 - d))) (hg : guardOk env loc ao.grd = some b) : Region.wanted o (yielded ops a.tmps) = b := by
  have hc := h1.grd
  unfold Region.wanted
  cases hgd : o.guard with
  | none =>
    rw [hgd] at hc
    simp only [chkGuardD, Option.isNone_iff_eq_none] at hc
    rw [hc] at hg
    simp [guardOk] at hg
    simp [hg]
  | some jw =>
    obtain ⟨j, want⟩ := jw
    rw [hgd] at hc
    cases hgr : ao.grd with
    | none => rw [hgr] at hc; simp [chkGuardD] at hc
    | some qw =>
      obtain ⟨q, want'⟩ := qw
      rw [hgr] at hc hg
      simp only [chkGuardD, Bool.and_eq_true, beq_iff_eq] at hc
      obtain ⟨rfl, hc⟩ := hc
      split at hc
      · rename_i t ht
        have hv := h.opd h1 hp hD hready hl hloc hc
        simp only [guardOk] at hg
        split at hg
        · rename_i b' hb
          cases hg
          rw [hb] at hv
          simp only [Act.eval] at hv
          have hu : a.tmps.getD t undef = .bool b' := by
            generalize a.tmps.getD t undef = u at hv
            cases hv; rfl
          have hlt : t < a.tmps.size := by
            rcases Nat.lt_or_ge t a.tmps.size with h' | h'
            · exact h'
            · rw [Array.getD, dif_neg (by omega)] at hu; simp [undef] at hu
          have hy : yielded ops a.tmps j = some b' := by
            unfold yielded
            rw [ht]
            simp only [Option.bind_some]
            have : a.tmps[t]? = some (.bool b') := by
              rw [Array.getElem?_eq_getElem hlt]
              rw [Array.getD, dif_pos hlt] at hu
              exact congrArg some hu
            rw [this]
          simp only [hy]
          cases b' <;> cases want <;> rfl
        · rename_i hb
          cases hg
          rw [hb] at hv
          simp only [Act.eval] at hv
          have hu := hv.of_skipped
          have hy : yielded ops a.tmps j = none := by
            unfold yielded
            rw [ht]
            simp only [Option.bind_some]
            rcases Nat.lt_or_ge t a.tmps.size with h' | h'
            · rw [Array.getElem?_eq_getElem h']
              rw [Array.getD, dif_pos h'] at hu
              have hu2 : a.tmps[t] = .tuple #[] := hu
              rw [hu2]
            · rw [Array.getElem?_eq_none h']
          simp only [hy]
          cases want <;> rfl
        · cases hg
      · cases hc

/-- The temporaries behind an operation. -/
theorem put_vals {D : Nat → Bool} {p : Nat} {a : Act} {μ ν : Mu} {o : Oper} {ao : AOper} {u : Value} (h1 : At1 P names nt L ops p ao o) (hall : ∀ q, q < L.length → ∃ ao o, At1 P names nt L ops q ao o) (hp : p < L.length) (hle : μ.le ν) (hsz : a.tmps.size = nt) (hv : VR ν (S.V p) u)
    (named : ∀ (j : Nat) t, names[j]? = some t → (∀ q, q < L.length → D q = true → dstAt L ops q ≠ some t) → VR μ (env.getD j .un) (a.tmps.getD t undef))
    (vals : ∀ q t, q < L.length → D q = true → dstAt L ops q = some t → VR μ (S.V q) (a.tmps.getD t undef)) :
    (a.put o.dst u).tmps.size = nt ∧ (∀ (j : Nat) t, names[j]? = some t → (∀ q, q < L.length → (D q || q == p) = true → dstAt L ops q ≠ some t) → VR ν (env.getD j .un) ((a.put o.dst u).tmps.getD t undef)) ∧
      (∀ q t, q < L.length → (D q || q == p) = true → dstAt L ops q = some t → VR ν (S.V q) ((a.put o.dst u).tmps.getD t undef)) := by
  have hdp : dstAt L ops p = o.dst := by simp [dstAt, h1.get, h1.op]
  have other : ∀ t, o.dst ≠ some t → (a.put o.dst u).tmps.getD t undef = a.tmps.getD t undef := by
    intro t hne
    cases hd : o.dst with
    | none => rfl
    | some d =>
      rw [hd] at hne
      have hne' : d ≠ t := fun e => hne (by rw [e])
      simp [Act.put, Array.getD_eq_getD_getElem?, Array.getElem?_setIfInBounds_ne hne']
  refine ⟨by cases o.dst <;> simp [Act.put, hsz], ?_, ?_⟩
  · intro j t hj hn
    have hne : o.dst ≠ some t := by rw [← hdp]; exact hn p hp (by simp)
    rw [other t hne]
    exact (named j t hj fun q hq hDq => hn q hq (by simp [hDq])).mono hle
  · intro q t hq hDq hd
    by_cases e : q = p
    · subst e
      rw [hdp] at hd
      have hlt := h1.dst t hd
      rw [hd]
      simp only [Act.put]
      rw [Array.getD_eq_getD_getElem?, Array.getElem?_setIfInBounds]
      simp [hsz, hlt, hv]
    · have hDq' : D q = true := by simpa [e] using hDq
      have hne : o.dst ≠ some t := by
        rcases Nat.lt_or_gt_of_ne e with hlt | hgt
        · exact h1.one q t hlt hd
        · obtain ⟨ao', o', h2⟩ := hall q hq
          intro e2
          have hdq : dstAt L ops q = o'.dst := by simp [dstAt, h2.get, h2.op]
          exact h2.one p t hgt (by rw [hdp]; exact e2) (by rw [← hdq]; exact hd)
      rw [other t hne]
      exact (vals q t hq hDq' hd).mono hle
end main
end Go.Ai
/- A row of operations whose order is open (part five): every order comes to what the one order comes to. -/
namespace Go.Ai
set_option linter.unusedSectionVars false
variable [DrMode]
set_option linter.unusedVariables false
set_option linter.unusedSimpArgs false

theorem Ext.pad {H0 K K' : Heap} {μ0 ν : Mu} {w0 w : World} (h : Ext H0 K μ0 ν w0 w) (hl : K.length ≤ K'.length) (hlive : ∀ (b : Nat) o, K'[b]? = some o → o ≠ .dead → K[b]? = some o) (h0 : ∀ (b : Nat), b < H0.length → K'[b]? = K[b]?) : Ext H0 K' μ0 ν w0 w where
  le := h.le
  len := Nat.le_trans h.len hl
  calm b o hb hr := by
    obtain ⟨h1, h2⟩ := h.calm b o hb hr
    exact ⟨by rw [h0 b (List.getElem?_eq_some_iff.1 hb).1]; exact h1, h2⟩
  blk b o1 a hb hd ha := h.blk b o1 a (hlive b o1 hb hd) hd ha
  frame := h.frame
  size := h.size
  os := h.os
  tape := h.tape
  output := h.output
  drawn := h.drawn
  im := h.im
theorem next_x (f : Nat → Bool) (n : Nat) : ∀ (k p : Nat), n - p = k → p < n → ∃ x, p < x ∧ x ≤ n ∧ (∀ r, p < r → r < x → f r = false) ∧ (x < n → f x = true) := by
  intro k
  induction k with
  | zero => intro p h1 h2; omega
  | succ k ih =>
    intro p h1 h2
    by_cases e : p + 1 = n
    · exact ⟨p + 1, by omega, by omega, fun r h3 h4 => by omega, fun h => by omega⟩
    · cases hf : f (p + 1) with
      | true => exact ⟨p + 1, by omega, by omega, fun r h3 h4 => by omega, fun _ => hf⟩
      | false =>
        obtain ⟨x, a1, a2, a3, a4⟩ := ih (p + 1) (by omega) (by omega)
        refine ⟨x, by omega, a2, fun r h3 h4 => ?_, a4⟩
        by_cases e' : r = p + 1
        · rw [e']; exact hf
        · exact a3 r (by omega) h4

section main
variable {P : Program} {cl : Caller} {env : List AV} {S : Seqs} {L : List AOper} {ops : Array Oper} {names : List Tmp} {nt : Nat} {ds : List Deferred} {B : Nat} {H0 : Heap} {μ0 : Mu} {w0 : World} {Q : Exit → Act → World → Prop}

/-- A writing operation is done: on to the next one. -/
theorem DI.advance {D : Nat → Bool} {x : Nat} {a a' : Act} {w w' : World} {μ ν : Mu} (h : DI P env S L ops names nt ds B H0 μ0 w0 D x a w μ) (hS : ∀ q o, L[q]? = some o → DStep cl env S q o) (hH0 : S.Hs 0 = H0) (hx : x < L.length)
    (hready : ∀ q, (befOf L x).testBit q = true → q < L.length → D q = true)
    (hr : HR B ν (hideB (hidB S D x) (S.Hs (x + 1))) w') (hext : Ext H0 (hideB (hidB S D x) (S.Hs (x + 1))) μ0 ν w0 w') (hunb : ∀ q b g, q < x → D q = false → S.Bn q = some b → ν b g = none) (hbx : S.Bn x = none)
    (hsz : a'.tmps.size = nt) (hdef : a'.defers = ds)
    (named : ∀ (j : Nat) t, names[j]? = some t → (∀ q, q < L.length → (D q || q == x) = true → dstAt L ops q ≠ some t) → VR ν (env.getD j .un) (a'.tmps.getD t undef))
    (vals : ∀ q t, q < L.length → (D q || q == x) = true → dstAt L ops q = some t → VR ν (S.V q) (a'.tmps.getD t undef)) :
    ∃ x', DI P env S L ops names nt ds B H0 μ0 w0 (fun q => D q || q == x) x' a' w' ν := by
  obtain ⟨x', b1, b2, b3, b4⟩ := next_x (isXat L) L.length _ x rfl hx
  have hnot : ∀ q, x < q → q < L.length → D q = false := by
    intro q h1 h2
    cases hD : D q with
    | false => rfl
    | true => have := h.below q h2 hD; omega
  have hlive : ∀ (b : Nat) o, (hideB (hidB S (fun q => D q || q == x) x') (S.Hs x'))[b]? = some o → o ≠ .dead → (hideB (hidB S D x) (S.Hs (x + 1)))[b]? = some o := by
    intro b o hb hd
    obtain ⟨e1, e2⟩ := hideB_live hb hd
    have hlt : b < (S.Hs (x + 1)).length := by
      rcases Nat.lt_or_ge b (S.Hs (x + 1)).length with h' | h'
      · exact h'
      · obtain ⟨q, q1, q2, q3⟩ := calm_new hS h' b2 (fun p p1 p2 => b3 p (by omega) p2) (by omega) (List.getElem?_eq_some_iff.1 e1).1
        have : hidB S (fun q => D q || q == x) x' b = true := hidB_iff.2 ⟨q, q2, by simp [hnot q (by omega) (by omega)]; omega, q3⟩
        rw [this] at e2; cases e2
    rw [calm_keep hS hlt b2 (fun p p1 p2 => b3 p (by omega) p2) (by omega)] at e1
    refine hideB_vis e1 ?_
    cases hh : hidB S D x b with
    | false => rfl
    | true =>
      obtain ⟨q, q1, q2, q3⟩ := hidB_iff.1 hh
      have : hidB S (fun q => D q || q == x) x' b = true := hidB_iff.2 ⟨q, by omega, by simp [q2]; omega, q3⟩
      rw [this] at e2; cases e2
  have hlen : (hideB (hidB S D x) (S.Hs (x + 1))).length ≤ (hideB (hidB S (fun q => D q || q == x) x') (S.Hs x')).length := by
    rw [hideB_len, hideB_len]; exact len_mono hS (by omega) b2
  have hborn0 : ∀ q b, q < L.length → S.Bn q = some b → H0.length ≤ b := by
    intro q b hq hb
    have := (born_at hS hq hb).1
    have := len_mono hS (p := 0) (r := q) (by omega) (by omega)
    rw [hH0] at this
    omega
  have h0 : ∀ (b : Nat), b < H0.length → (hideB (hidB S (fun q => D q || q == x) x') (S.Hs x'))[b]? = (hideB (hidB S D x) (S.Hs (x + 1)))[b]? := by
    intro b hb
    have hl0 := len_mono hS (p := 0) (r := x + 1) (by omega) (by omega)
    rw [hH0] at hl0
    rw [hideB_get, hideB_get, calm_keep hS (y := x + 1) (by omega) b2 (fun p p1 p2 => b3 p (by omega) p2) (by omega)]
    have f1 : hidB S (fun q => D q || q == x) x' b = false := by
      cases hh : hidB S (fun q => D q || q == x) x' b with
      | false => rfl
      | true => obtain ⟨q, q1, _, q3⟩ := hidB_iff.1 hh; have := hborn0 q b (by omega) q3; omega
    have f2 : hidB S D x b = false := by
      cases hh : hidB S D x b with
      | false => rfl
      | true => obtain ⟨q, q1, _, q3⟩ := hidB_iff.1 hh; have := hborn0 q b (by omega) q3; omega
    rw [f1, f2]
  refine ⟨x', ?_, b2, ?_, ?_, ?_, hr.hide hlen hlive, hext.pad hlen hlive h0, ?_, hsz, hdef, named, vals⟩
  · intro p r hp hD hb hrl
    by_cases e : p = x
    · subst e; simp [hready r hb hrl]
    · have : D p = true := by simpa [e] using hD
      simp [h.down p r hp this hb hrl]
  · intro p hp hD
    by_cases e : p = x
    · omega
    · have : D p = true := by simpa [e] using hD
      have := h.below p hp this; omega
  · intro p hp hX
    by_cases e : p = x
    · simp [e]
    · by_cases hlt : p < x
      · simp [h.done p hlt hX]
      · rw [b3 p (by omega) hp] at hX; cases hX
  · intro hlt
    exact ⟨b4 hlt, by simp [hnot x' b1 hlt]; omega⟩
  · intro q b g hq hD hb
    have hDq : D q = false := by simp at hD; exact hD.1
    have hqx : q ≠ x := by simp at hD; exact hD.2
    by_cases hlt : q < x
    · exact hunb q b g hlt hDq hb
    · refine hr.fresh b g ?_
      rw [hideB_len]
      have := (born_at hS (by omega) hb).1
      have := len_mono hS (p := x + 1) (r := q) (by omega) (by omega)
      omega
/-- An operation that writes to nothing, and makes nothing, is done. -/
theorem DI.plain {D : Nat → Bool} {x p : Nat} {a a' : Act} {w : World} {μ : Mu} (h : DI P env S L ops names nt ds B H0 μ0 w0 D x a w μ) (hp : p < x) (hready : ∀ q, (befOf L p).testBit q = true → q < L.length → D q = true) (hbp : S.Bn p = none)
    (hsz : a'.tmps.size = nt) (hdef : a'.defers = ds)
    (named : ∀ (j : Nat) t, names[j]? = some t → (∀ q, q < L.length → (D q || q == p) = true → dstAt L ops q ≠ some t) → VR μ (env.getD j .un) (a'.tmps.getD t undef))
    (vals : ∀ q t, q < L.length → (D q || q == p) = true → dstAt L ops q = some t → VR μ (S.V q) (a'.tmps.getD t undef)) :
    DI P env S L ops names nt ds B H0 μ0 w0 (fun q => D q || q == p) x a' w μ := by
  have e : hidB S (fun q => D q || q == p) x = hidB S D x := by
    funext b
    apply Bool.eq_iff_iff.2
    rw [hidB_iff, hidB_iff]
    constructor
    · rintro ⟨q, q1, q2, q3⟩; exact ⟨q, q1, by simp at q2; exact q2.1, q3⟩
    · rintro ⟨q, q1, q2, q3⟩
      refine ⟨q, q1, ?_, q3⟩
      have : q ≠ p := fun e => by rw [e, hbp] at q3; cases q3
      simp [q2, this]
  refine ⟨?_, h.xle, ?_, ?_, ?_, by rw [e]; exact h.hr, by rw [e]; exact h.ext, ?_, hsz, hdef, named, vals⟩
  · intro p' r hp' hD hb hrl
    by_cases e : p' = p
    · subst e; simp [hready r hb hrl]
    · have : D p' = true := by simpa [e] using hD
      simp [h.down p' r hp' this hb hrl]
  · intro p' hp' hD
    by_cases e : p' = p
    · omega
    · have : D p' = true := by simpa [e] using hD
      exact h.below p' hp' this
  · intro p' hp' hX; simp [h.done p' hp' hX]
  · intro hlt
    obtain ⟨h1, h2⟩ := h.next hlt
    exact ⟨h1, by simp [h2]; omega⟩
  · intro q b g hq hD hb
    exact h.unborn q b g hq (by simp at hD; exact hD.1) hb
/-- An operation that makes an object is done. -/
theorem DI.born {D : Nat → Bool} {x p b : Nat} {a a' : Act} {w : World} {μ : Mu} {o : Obj} {ob : Ob} {at_ : At} (h : DI P env S L ops names nt ds B H0 μ0 w0 D x a w μ) (hS : ∀ q o, L[q]? = some o → DStep cl env S q o) (hH0 : S.Hs 0 = H0) (hp : p < x) (hD : D p = false) (hready : ∀ q, (befOf L p).testBit q = true → q < L.length → D q = true)
    (hbp : S.Bn p = some b) (hob : (S.Hs (p + 1))[b]? = some ob) (hg : ob.gen = 0) (hd : ob ≠ .dead) (hblk : at_.blk = w.heap.size) (hobR : obR B (μ.set b 0 at_) (w.alloc o) at_ ob)
    (hsz : a'.tmps.size = nt) (hdef : a'.defers = ds)
    (named : ∀ (j : Nat) t, names[j]? = some t → (∀ q, q < L.length → (D q || q == p) = true → dstAt L ops q ≠ some t) → VR (μ.set b 0 at_) (env.getD j .un) (a'.tmps.getD t undef))
    (vals : ∀ q t, q < L.length → (D q || q == p) = true → dstAt L ops q = some t → VR (μ.set b 0 at_) (S.V q) (a'.tmps.getD t undef)) :
    DI P env S L ops names nt ds B H0 μ0 w0 (fun q => D q || q == p) x a' (w.alloc o) (μ.set b 0 at_) := by
  have hxL := h.xle
  have hinj : ∀ q, q < L.length → S.Bn q = some b → q = p := by
    intro q hq hb
    obtain ⟨e1, e2⟩ := born_at hS hq hb
    obtain ⟨f1, f2⟩ := born_at hS (by omega : p < L.length) hbp
    rcases Nat.lt_trichotomy q p with hlt | he | hgt
    · have := len_mono hS (p := q + 1) (r := p) (by omega) (by omega); omega
    · exact he
    · have := len_mono hS (p := p + 1) (r := q) (by omega) (by omega); omega
  have hxb : (S.Hs x)[b]? = some ob := by rw [born_keep hS hbp hD hxL h.down h.done hp (Nat.le_refl _)]; exact hob
  have hid1 : hidB S D x b = true := hidB_iff.2 ⟨p, hp, hD, hbp⟩
  have hid2 : hidB S (fun q => D q || q == p) x b = false := by
    cases hh : hidB S (fun q => D q || q == p) x b with
    | false => rfl
    | true =>
      obtain ⟨q, q1, q2, q3⟩ := hidB_iff.1 hh
      have := hinj q (by omega) q3
      subst this
      simp at q2
  have hido : ∀ c, c ≠ b → hidB S (fun q => D q || q == p) x c = hidB S D x c := by
    intro c hc
    apply Bool.eq_iff_iff.2
    rw [hidB_iff, hidB_iff]
    constructor
    · rintro ⟨q, q1, q2, q3⟩; exact ⟨q, q1, by simp at q2; exact q2.1, q3⟩
    · rintro ⟨q, q1, q2, q3⟩
      refine ⟨q, q1, ?_, q3⟩
      have : q ≠ p := fun e => by rw [e, hbp] at q3; injection q3 with q3; exact hc q3.symm
      simp [q2, this]
  have hdead : (hideB (hidB S D x) (S.Hs x))[b]? = some .dead := by rw [hideB_get, hxb]; simp [hid1]
  have hnew : (hideB (hidB S (fun q => D q || q == p) x) (S.Hs x))[b]? = some ob := hideB_vis hxb hid2
  have hoth : ∀ c, c ≠ b → (hideB (hidB S (fun q => D q || q == p) x) (S.Hs x))[c]? = (hideB (hidB S D x) (S.Hs x))[c]? := by
    intro c hc; rw [hideB_get, hideB_get, hido c hc]
  have hnone : ∀ g, μ b g = none := fun g => h.unborn p b g hp hD hbp
  have hge : H0.length ≤ b := by
    have := (born_at hS (by omega) hbp).1
    have := len_mono hS (p := 0) (r := p) (by omega) (by omega)
    rw [hH0] at this; omega
  refine ⟨?_, h.xle, ?_, ?_, ?_, h.hr.reveal hdead hnone o hg hd hblk hobR (by rw [hideB_len, hideB_len]) hnew hoth, h.ext.reveal hge (hnone 0) o hblk hg (by rw [hideB_len, hideB_len]) hnew hoth, ?_, hsz, hdef, named, vals⟩
  · intro p' r hp' hD hb hrl
    by_cases e : p' = p
    · subst e; simp [hready r hb hrl]
    · have : D p' = true := by simpa [e] using hD
      simp [h.down p' r hp' this hb hrl]
  · intro p' hp' hD
    by_cases e : p' = p
    · omega
    · have : D p' = true := by simpa [e] using hD
      exact h.below p' hp' this
  · intro p' hp' hX; simp [h.done p' hp' hX]
  · intro hlt
    obtain ⟨h1, h2⟩ := h.next hlt
    exact ⟨h1, by simp [h2]; omega⟩
  · intro q c g hq hDq hb
    have hne : c ≠ b := by
      intro e; subst e
      have := hinj q (by omega) hb
      subst this
      simp at hDq
    rw [Mu.set_other _ _ (fun e => hne e.1)]
    exact h.unborn q c g hq (by simp at hDq; exact hDq.1) hb
end main
end Go.Ai
/- A row of operations whose order is open (the end): every order comes to what the one order comes to. -/
namespace Go.Ai
set_option linter.unusedSectionVars false
variable [DrMode]
set_option linter.unusedVariables false
set_option linter.unusedSimpArgs false
section main
variable {P : Program} {cl : Caller} {env : List AV} {S : Seqs} {L : List AOper} {ops : Array Oper} {names : List Tmp} {nt : Nat} {ds : List Deferred} {B : Nat} {H0 : Heap} {μ0 : Mu} {w0 : World} {Q : Exit → Act → World → Prop}

theorem ntouch_ptr {no : NOp} {vs : List AV} {b : Nat} (h : ntouch no vs = some b) : ∃ g o, vs = [.ptr b g o] := by
  unfold ntouch at h
  split at h
  · split at h
    · cases h; exact ⟨_, _, rfl⟩
    · cases h
  · split at h
    · cases h; exact ⟨_, _, rfl⟩
    · cases h
  · cases h
theorem nstep_rd {no : NOp} {vs : List AV} {rd : Nat → Option Ob} {b : Nat} {r : NRes} (ht : ntouch no vs = some b) (h : nstep no vs rd = some r) : ∃ g ro c, rd b = some (.cells g ro c) := by
  unfold ntouch at ht
  split at ht
  · split at ht
    · cases ht
      simp only [nstep] at h
      split at h
      · rename_i hb; exact ⟨_, _, _, hb⟩
      · cases h
    · cases ht
  · split at ht
    · cases ht
      simp only [nstep] at h
      split at h
      · rename_i hb; exact ⟨_, _, _, hb⟩
      · cases h
    · cases ht
  · cases ht

/-- ONE OPERATION, WHENEVER IT IS READY. -/
theorem DI.step {D : Nat → Bool} {x p : Nat} {a : Act} {w : World} {μ : Mu} {o : Oper} {ao : AOper} {K : Act → World → Prop} (hcl : Sound P cl) (h : DI P env S L ops names nt ds B H0 μ0 w0 D x a w μ) (hS : ∀ q o, L[q]? = some o → DStep cl env S q o) (hH0 : S.Hs 0 = H0)
    (hall : ∀ q, q < L.length → ∃ ao o, At1 P names nt L ops q ao o) (h1 : At1 P names nt L ops p ao o) (hp : p < L.length) (hD : D p = false) (hready : ∀ q, (befOf L p).testBit q = true → q < L.length → D q = true)
    (hK : ∀ x' a' w' ν, DI P env S L ops names nt ds B H0 μ0 w0 (fun q => D q || q == p) x' a' w' ν → K a' w') : wpOp P ops Q ao.ix K a w := by
  have hbef : befOf L p = ao.bef := by simp [befOf, h1.get]
  have hpx : p ≤ x := by
    rcases Nat.lt_or_ge x p with hlt | hge
    · obtain ⟨hX, hDx⟩ := h.next (by omega)
      have := hready x (by rw [hbef]; exact h1.xs x hlt hX) (by omega)
      rw [hDx] at this; cases this
    · exact hge
  obtain ⟨loc, hl, hloc, hstep⟩ := hS p ao h1.get
  have hvs := h.opds h1 hp hD hready hl hloc h1.args
  have hgd := fun b (hg : guardOk env loc ao.grd = some b) => h.guard h1 hp hD hready hl hloc hg
  have hxat : isXat L p = isX ao.o := by simp [isXat, h1.get]
  have hdef : ∀ u, (a.put o.dst u).defers = ds := fun u => by cases o.dst <;> simp [Act.put, h.defers]
  unfold wpOp
  simp only [h1.op]
  rcases hstep with ⟨hg, e1, e2, e3, e4⟩ | ⟨hg, no, hn, hs, e2, e3, e4⟩ | ⟨hg, no, ob, mk, hn, hs, e1, e2, e3, e4⟩ | ⟨hg, hX, hid, H1, hh, hk, hlen, hop, e2, e3, e4⟩
  · -- not wanted
    rw [hgd _ hg]
    simp only [Bool.false_eq_true, if_false]
    obtain ⟨s1, s2, s3⟩ := put_vals (u := undef) h1 hall hp (Mu.le_refl μ) h.size (by rw [e1]; exact VR.skipped _) h.named h.vals
    by_cases he : p = x
    · subst he
      obtain ⟨x', hx'⟩ := h.advance (a' := a.put o.dst undef) (w' := w) (ν := μ) hS hH0 hp hready (by rw [e2]; exact h.hr) (by rw [e2]; exact h.ext) h.unborn e4 s1 (hdef _) s2 s3
      exact hK x' _ _ _ hx'
    · exact hK x _ _ _ (h.plain (by omega) hready e4 s1 (hdef _) s2 s3)
  · -- a value
    rw [hgd _ hg]
    simp only [if_true]
    refine .inl ?_
    have hnx : p ≠ x := by
      intro e; subst e
      obtain ⟨hX, _⟩ := h.next hp
      rw [hxat, hn] at hX; cases hX
    have hchk := h1.chk
    rw [hn] at hchk hvs
    simp only [oargs] at hvs
    obtain ⟨u, hu, hr⟩ := nsim (P := P) h.hr.base hchk hvs hs (fun b ob ht hb hd => by
      obtain ⟨g, of, hv⟩ := ntouch_ptr ht
      rw [hv] at hvs
      have hlive : (S.Hs x)[b]? = some ob := by
        rw [touch_keep hS (by rw [e3]; exact ht) hD (List.getElem?_eq_some_iff.1 hb).1 h.xle h.down h.done (by omega) (Nat.le_refl _)]
        exact hb
      have hvis : hidB S D x b = false := by
        cases hh : hidB S D x b with
        | false => rfl
        | true =>
          obtain ⟨q, q1, q2, q3⟩ := hidB_iff.1 hh
          obtain ⟨y, t, e, hy, _⟩ := hvs.cases_cons
          cases hy with
          | ptr hm => rw [h.unborn q b g q1 q2 q3] at hm; cases hm
      exact h.hr.ob b ob (hideB_vis hlive hvis) hd) (fun k o u e => (h.hr.im k o u e).2)
    unfold Oper.wp
    rw [hu, Oper.upon_value]
    obtain ⟨s1, s2, s3⟩ := put_vals (u := u) h1 hall hp (Mu.le_refl μ) h.size hr h.named h.vals
    exact hK x _ _ _ (h.plain (by omega) hready e4 s1 (hdef _) s2 s3)
  · -- a new object
    rw [hgd _ hg]
    simp only [if_true]
    refine .inl ?_
    have hnx : p ≠ x := by
      intro e; subst e
      obtain ⟨hX, _⟩ := h.next hp
      rw [hxat, hn] at hX; cases hX
    have hchk := h1.chk
    rw [hn] at hchk hvs
    simp only [oargs] at hvs
    obtain ⟨ob', u, ext, hr, hg0, hd, hmk⟩ := nsim (P := P) h.hr.base hchk hvs hs (fun b ob2 ht hb hd => by
      exfalso
      unfold ntouch at ht
      cases no <;> simp only at ht <;> try (cases ht; done)
      all_goals
        split at ht
        · cases ht
          simp only [nstep] at hs
          repeat' split at hs
          all_goals (first | (cases hs; done) | (simp at hs; done))
        · cases ht) (fun k o u e => (h.hr.im k o u e).2)
    have hle := Mu.le_set (μ := μ) ⟨w.heap.size, 0, ext⟩ (h.unborn p _ 0 (by omega) hD e4)
    obtain ⟨k1, k2⟩ := hmk (μ.set (S.Hs p).length 0 ⟨w.heap.size, 0, ext⟩) (S.Hs p).length hle (Mu.set_same _ _ _ _)
    unfold Oper.wp
    rw [hr, Oper.upon_value]
    obtain ⟨s1, s2, s3⟩ := put_vals (u := u) h1 hall hp hle h.size (by rw [e1]; exact k2) h.named h.vals
    exact hK x _ _ _ (h.born hS hH0 (by omega) hD hready e4 (by rw [e2]; simp) hg0 hd rfl k1 s1 (hdef _) s2 s3)
  · -- a writing one, or a call
    rw [hgd _ hg]
    simp only [if_true]
    refine .inl ?_
    have he : p = x := by
      rcases Nat.lt_or_eq_of_le hpx with hlt | e
      · have := h.done p hlt (by rw [hxat]; exact hX)
        rw [hD] at this; cases this
      · exact e
    subst he
    have hidlt : ∀ c ∈ hid, c < (S.Hs p).length := by
      intro c hc
      obtain ⟨q, q1, q2, _⟩ := (hh c).1 hc
      have := (born_at hS (by omega) q2).2
      have := len_mono hS (p := q + 1) (r := p) (by omega) (by omega)
      omega
    have hvis : ∀ (b : Nat) ob, (hide hid (S.Hs p))[b]? = some ob → ob ≠ .dead → (hideB (hidB S D p) (S.Hs p))[b]? = some ob := by
      intro b ob hb hd
      rw [hide_get] at hb
      split at hb
      · cases hb; exact absurd rfl hd
      · rename_i hnb
        refine hideB_vis hb ?_
        cases hh2 : hidB S D p b with
        | false => rfl
        | true =>
          obtain ⟨q, q1, q2, q3⟩ := hidB_iff.1 hh2
          refine absurd ⟨(hh b).2 ⟨q, q1, q3, ?_⟩, (List.getElem?_eq_some_iff.1 hb).1⟩ hnb
          cases ht : ao.bef.testBit q with
          | false => rfl
          | true => have := hready q (by rw [hbef]; exact ht) (by omega); rw [q2] at this; cases this
    have hHR := h.hr.hide (H' := hide hid (S.Hs p)) (by rw [hide_len, hideB_len]; exact Nat.le_refl _) hvis
    have hborn0 : ∀ q b, q < L.length → S.Bn q = some b → H0.length ≤ b := by
      intro q b hq hb
      have := (born_at hS hq hb).1
      have := len_mono hS (p := 0) (r := q) (by omega) (by omega)
      rw [hH0] at this
      omega
    refine op_sound hcl hHR h1.chk hvs hop ?_ ?_
    · intro v H1' u w' ν e hv hr1 hx1
      cases e
      have hKlen : (hideB (hidB S D p) (S.Hs (p + 1))).length = H1.length := by rw [hideB_len, e2, unhide_len]
      have hK1 : ∀ (b : Nat) ob, (hideB (hidB S D p) (S.Hs (p + 1)))[b]? = some ob → ob ≠ .dead → (¬ b ∈ hid ∧ H1[b]? = some ob) ∨ (b ∈ hid ∧ (hideB (hidB S D p) (S.Hs p))[b]? = some ob) := by
        intro b ob hb hd
        obtain ⟨f1, f2⟩ := hideB_live hb hd
        rw [e2] at f1
        by_cases hlt : b < (S.Hs p).length
        · rw [unhide_get _ _ _ _ hlen hlt] at f1
          by_cases hm : b ∈ hid
          · rw [if_pos hm] at f1; exact .inr ⟨hm, hideB_vis f1 f2⟩
          · rw [if_neg hm] at f1; exact .inl ⟨hm, f1⟩
        · rw [unhide_get_ge _ _ _ _ hidlt (by omega)] at f1
          exact .inl ⟨fun hm => hlt (hidlt b hm), f1⟩
      have hhid : ∀ b, b ∈ hid → b < (hideB (hidB S D p) (S.Hs p)).length → (hide hid (S.Hs p))[b]? = some .dead := by
        intro b hb hl2
        rw [hideB_len] at hl2
        rw [hide_get, if_pos ⟨hb, hl2⟩]
      have r1 := HR.back (hid := fun b => b ∈ hid) (K := hideB (hidB S D p) (S.Hs (p + 1))) h.hr hr1 hx1 (by rw [hide_len, hideB_len]) hhid hvis hKlen hK1
      have r2 := Ext.back (hid := fun b => b ∈ hid) (K := hideB (hidB S D p) (S.Hs (p + 1))) h.ext hx1 (by rw [hide_len, hideB_len]) hhid (fun b hb => by obtain ⟨q, q1, q2, _⟩ := (hh b).1 hb; exact hborn0 q b (by omega) q2) hvis
        (fun b hb hl0 => by
          rw [hide_get, if_neg (fun e => hb e.1), hideB_get]
          have : hidB S D p b = false := by
            cases hh2 : hidB S D p b with
            | false => rfl
            | true => obtain ⟨q, q1, _, q3⟩ := hidB_iff.1 hh2; have := hborn0 q b (by omega) q3; omega
          rw [this]; simp) (by rw [hKlen]; exact Nat.le_refl _) hK1
        (fun b hl0 => by
          have l0 := len_mono hS (p := 0) (r := p) (by omega) (by omega)
          rw [hH0] at l0
          have hnb : ¬ b ∈ hid := by
            intro hb; obtain ⟨q, q1, q2, _⟩ := (hh b).1 hb; have := hborn0 q b (by omega) q2; omega
          rw [hideB_get, e2, unhide_get _ _ _ _ hlen (by omega), if_neg hnb]
          have : hidB S D p b = false := by
            cases hh2 : hidB S D p b with
            | false => rfl
            | true => obtain ⟨q, q1, _, q3⟩ := hidB_iff.1 hh2; have := hborn0 q b (by omega) q3; omega
          rw [this]; simp)
      obtain ⟨s1, s2, s3⟩ := put_vals (u := u) h1 hall hp hx1.le h.size hv h.named h.vals
      have hunb : ∀ q b g, q < p → D q = false → S.Bn q = some b → ν b g = none := by
        intro q b g hq hDq hb
        have hm : b ∈ hid := by
          refine (hh b).2 ⟨q, hq, hb, ?_⟩
          cases ht : ao.bef.testBit q with
          | false => rfl
          | true => have := hready q (by rw [hbef]; exact ht) (by omega); rw [hDq] at this; cases this
        have := (hx1.calm b .dead (by rw [hide_get, if_pos ⟨hm, hidlt b hm⟩]) rfl).2 g
        rw [this]; exact h.unborn q b g hq hDq hb
      obtain ⟨x', hx'⟩ := h.advance hS hH0 hp hready r1 r2 hunb e4 s1 (hdef _) s2 s3
      exact hK x' _ _ _ hx'
    · intro v H1' u w' ν e
      cases e

theorem unique_pos {q p : Nat} (hall : ∀ q, q < L.length → ∃ ao o, At1 P names nt L ops q ao o) (hq : q < L.length) (hp : p < L.length) {ao ao' : AOper} (h1 : L[q]? = some ao) (h2 : L[p]? = some ao') (e : ao.ix = ao'.ix) : q = p := by
  obtain ⟨x, o, k⟩ := hall q hq
  obtain ⟨x', o', k'⟩ := hall p hp
  have e1 : x = ao := by have := k.get; rw [h1] at this; exact (Option.some.inj this).symm
  have e2 : x' = ao' := by have := k'.get; rw [h2] at this; exact (Option.some.inj this).symm
  subst e1; subst e2
  rw [← k.pos, ← k'.pos, e]

theorem dstsOf_eq : ∀ (l : List AOper) (dsts : List (Option Tmp)), dstsOf ops dsts l = (l.map fun ao => (ops[ao.ix]?).bind (·.dst)).reverse ++ dsts
  | [], dsts => rfl
  | ao :: l, dsts => by rw [dstsOf, dstsOf_eq l]; simp
theorem posOf_ix {i : Nat} {ao : AOper} (h : L[posOf L i]? = some ao) : ao.ix = i := by
  have hlt : L.findIdx (fun a => a.ix == i) < L.length := (List.getElem?_eq_some_iff.1 h).1
  have h1 := List.findIdx_getElem (p := fun a : AOper => a.ix == i) (xs := L) (w := hlt)
  have h2 : L[L.findIdx (fun a => a.ix == i)]? = some ao := h
  rw [List.getElem?_eq_getElem hlt] at h2
  rw [Option.some.inj h2] at h1
  simpa using h1
/-- EVERY ORDER COMES TO WHAT THE ONE ORDER COMES TO. -/
theorem draw_sound {a : Act} {w : World} {μ : Mu} {H Hn : Heap} {locn : List AV} (hcl : Sound P cl) (hchk : chkDraw P names nt ops L = true) (hI : Inv names nt ds env [] [] μ a) (hH : HR B μ H w) (hrun : runDraw cl env L [] [] [] H = some (locn, Hn))
    (hok : ∀ a' w' ν, Inv names nt ds env locn (dstsOf ops [] L) ν a' → HR B ν Hn w' → Ext H Hn μ ν w w' → Q .normal a' w') : wpAny P .any ops Q ops.size (Array.replicate ops.size false) a w := by
  obtain ⟨S, _, hH0, hHn, hln, hlocn, hS⟩ := draw_states hcl L [] [] [] H locn Hn rfl rfl hrun
  simp only [List.length_nil, Nat.zero_add] at hH0 hHn hln hS
  simp only [chkDraw, Bool.and_eq_true, beq_iff_eq] at hchk
  obtain ⟨⟨hlen, hpos⟩, hat⟩ := hchk
  have hall : ∀ q, q < L.length → ∃ ao o, At1 P names nt L ops q ao o := fun q hq => chkAt_spec (List.all_eq_true.1 hat q (by simpa using hq))
  have hposl : ∀ i, i < ops.size → posOf L i < L.length := fun i hi => by
    have := List.all_eq_true.1 hpos i (by simpa using hi)
    simpa using this
  have hget : ∀ i, i < ops.size → ∃ ao, L[posOf L i]? = some ao ∧ ao.ix = i := by
    intro i hi
    have hlt := hposl i hi
    exact ⟨L[posOf L i], List.getElem?_eq_getElem hlt, posOf_ix (List.getElem?_eq_getElem hlt)⟩
  -- the operations that are listed, by their places in the one order
  let Dl : Array Bool → Nat → Bool := fun listed q => match L[q]? with
    | some ao => listed.getD ao.ix true
    | none => true
  have hDl : ∀ (listed : Array Bool) q ao, L[q]? = some ao → Dl listed q = listed.getD ao.ix true := fun listed q ao h => by simp only [Dl, h]
  have hset : ∀ (listed : Array Bool) (p : Nat) (ao : AOper), listed.size = ops.size → p < L.length → L[p]? = some ao → ao.ix < ops.size → ∀ q, q < L.length → Dl (listed.setIfInBounds ao.ix true) q = (Dl listed q || q == p) := by
    intro listed p ao hsz hp hao hix q hq
    have hLq : L[q]? = some L[q] := List.getElem?_eq_getElem hq
    rw [hDl _ q _ hLq, hDl _ q _ hLq]
    by_cases e : q = p
    · subst e
      rw [hao] at hLq
      have := Option.some.inj hLq
      rw [← this]
      simp [Array.getD_eq_getD_getElem?, Array.getElem?_setIfInBounds, hsz, hix]
    · have hne : ao.ix ≠ (L[q]).ix := fun e' => e (unique_pos hall hq hp hLq hao e'.symm)
      simp [Array.getD_eq_getD_getElem?, Array.getElem?_setIfInBounds_ne hne, e]
  -- the end: all have run
  have hend : ∀ (listed : Array Bool) (x : Nat) (a' : Act) (w' : World) (ν : Mu), DI P env S L ops names nt ds B H μ w (Dl listed) x a' w' ν → listed.size = ops.size → Region.ready .any ops listed = [] → Q .normal a' w' := by
    intro listed x a' w' ν h hsz hr
    have hdone : ∀ p, p < L.length → Dl listed p = true := by
      intro p
      induction p using Nat.strongRecOn with
      | _ p ih =>
        intro hp
        cases hD : Dl listed p with
        | true => rfl
        | false =>
          obtain ⟨ao, o, h1⟩ := hall p hp
          have hix : ao.ix < ops.size := (Array.getElem?_eq_some_iff.1 h1.op).1
          have : ao.ix ∈ Region.ready .any ops listed := by
            rw [mem_ready]
            refine ⟨by rw [← hDl listed p ao h1.get]; exact hD, o, h1.op, fun e he hb => ?_⟩
            have hlt := h1.edge e he hb
            have hd := ih (posOf L e.on) hlt (by omega)
            -- the edge's operation is one of the row
            have hex : L[posOf L e.on]? = some L[posOf L e.on] := List.getElem?_eq_getElem (by omega)
            have hix2 : (L[posOf L e.on]).ix = e.on := posOf_ix hex
            rw [hDl listed _ _ hex, hix2] at hd
            obtain ⟨_, o2, h2⟩ := hall (posOf L e.on) (by omega)
            have e3 : (L[posOf L e.on]) = _ := Option.some.inj (hex.symm.trans h2.get)
            have : e.on < ops.size := by rw [← hix2, e3]; exact (Array.getElem?_eq_some_iff.1 h2.op).1
            rw [Array.getD_eq_getD_getElem?, Array.getElem?_eq_getElem (by omega)] at hd ⊢
            exact hd
          rw [hr] at this
          cases this
    have hx : x = L.length := by
      rcases Nat.lt_or_eq_of_le h.xle with hlt | e
      · obtain ⟨_, hD⟩ := h.next hlt
        rw [hdone x hlt] at hD; cases hD
      · exact e
    subst hx
    have hnohid : ∀ b, hidB S (Dl listed) L.length b = false := by
      intro b
      cases hh : hidB S (Dl listed) L.length b with
      | false => rfl
      | true => obtain ⟨q, q1, q2, _⟩ := hidB_iff.1 hh; rw [hdone q q1] at q2; cases q2
    have hheap : hideB (hidB S (Dl listed) L.length) (S.Hs L.length) = Hn := by
      rw [← hHn]
      apply List.ext_getElem?
      intro b
      rw [hideB_get]
      simp [hnohid b]
    refine hok a' w' ν ⟨h.size, h.defers, ?_, ?_⟩ (by rw [← hheap]; exact h.hr) (by rw [← hheap]; exact h.ext)
    · intro j t hj hn
      refine h.named j t hj fun q hq _ e => hn ?_
      rw [dstsOf_eq]
      simp only [List.append_nil, List.mem_reverse, List.mem_map]
      obtain ⟨ao, o, h1⟩ := hall q hq
      refine ⟨ao, List.mem_of_getElem? h1.get, ?_⟩
      simpa [dstAt, h1.get] using e
    · intro d t hd _
      rw [dstsOf_eq] at hd
      simp only [List.append_nil] at hd
      have hdl : d < L.length := by have := (List.getElem?_eq_some_iff.1 hd).1; simpa using this
      rw [List.getElem?_reverse (by simpa using hdl)] at hd
      simp only [List.length_map, List.getElem?_map] at hd
      have hq : L.length - 1 - d < L.length := by omega
      rw [List.getElem?_eq_getElem hq] at hd
      simp only [Option.map_some, Option.some.injEq] at hd
      have := h.vals (L.length - 1 - d) t hq (hdone _ hq) (by simp [dstAt, List.getElem?_eq_getElem hq, hd])
      have e1 := hlocn d (by omega)
      rw [hln] at e1
      rw [List.getD_eq_getElem?_getD, e1]
      exact this
  have key : ∀ (fuel : Nat) (listed : Array Bool) (x : Nat) (a' : Act) (w' : World) (ν : Mu), listed.size = ops.size → DI P env S L ops names nt ds B H μ w (Dl listed) x a' w' ν → (fuel = 0 → Region.ready .any ops listed = []) → ((List.range ops.size).filter fun i => !listed.getD i true).length ≤ fuel → wpAny P .any ops Q fuel listed a' w' := by
    intro fuel
    induction fuel with
    | zero => intro listed x a' w' ν hsz h h0 _; exact ⟨h0 rfl, hend listed x a' w' ν h hsz (h0 rfl)⟩
    | succ fuel ih =>
      intro listed x a' w' ν hsz h _ hcnt
      refine ⟨hend listed x a' w' ν h hsz, fun i hi => ?_⟩
      obtain ⟨hl, o, ho, hedge⟩ := mem_ready.1 hi
      have hi' : i < ops.size := (Array.getElem?_eq_some_iff.1 ho).1
      obtain ⟨ao, hao, hix⟩ := hget i hi'
      have hp := hposl i hi'
      obtain ⟨ao', o', h1⟩ := hall _ hp
      have e1 : ao' = ao := Option.some.inj (h1.get.symm.trans hao)
      subst e1
      have e2 : o' = o := by have := h1.op; rw [hix, ho] at this; exact (Option.some.inj this).symm
      subst e2
      have hDp : Dl listed (posOf L i) = false := by rw [hDl _ _ _ hao, hix]; exact hl
      have hready : ∀ q, (befOf L (posOf L i)).testBit q = true → q < L.length → Dl listed q = true := by
        intro q hq hql
        have hq' : ao'.bef.testBit q = true := by simpa [befOf, hao] using hq
        have hm := or_bit h1.mask hq'
        obtain h' | ⟨e, he, hb, hcase⟩ := mask_bit L _ _ _ hm
        · simp at h'
        · have he' : e ∈ o'.after := by simpa using he
          have hlt := h1.edge e he' hb
          have hex : L[posOf L e.on]? = some L[posOf L e.on] := List.getElem?_eq_getElem (by omega)
          have hix2 : (L[posOf L e.on]).ix = e.on := posOf_ix hex
          have hon : e.on < ops.size := by
            obtain ⟨_, o2, h2⟩ := hall (posOf L e.on) (by omega)
            have e3 : (L[posOf L e.on]) = _ := Option.some.inj (hex.symm.trans h2.get)
            rw [← hix2, e3]; exact (Array.getElem?_eq_some_iff.1 h2.op).1
          have hDe : Dl listed (posOf L e.on) = true := by
            rw [hDl _ _ _ hex, hix2]
            have := hedge e he' hb
            rw [Array.getD_eq_getD_getElem?, Array.getElem?_eq_getElem (by omega)] at this ⊢
            exact this
          rcases hcase with e' | e'
          · rw [← e']; exact hDe
          · exact h.down (posOf L e.on) q (by omega) hDe e' hql
      have hs := hset listed (posOf L i) ao' hsz hp hao (by rw [hix]; exact hi')
      rw [← hix]
      refine h.step hcl hS hH0 hall h1 hp hDp hready fun x' a2 w2 ρ hdi => ?_
      have hdi' : DI P env S L ops names nt ds B H μ w (Dl (listed.setIfInBounds ao'.ix true)) x' a2 w2 ρ := by
        have hs' : ∀ q, q < L.length → (Dl listed q || q == posOf L i) = Dl (listed.setIfInBounds ao'.ix true) q := fun q hq => (hs q hq).symm
        have hhid : ∀ y, y ≤ L.length → hidB S (fun q => Dl listed q || q == posOf L i) y = hidB S (Dl (listed.setIfInBounds ao'.ix true)) y := by
          intro y hy
          funext b
          apply Bool.eq_iff_iff.2
          rw [hidB_iff, hidB_iff]
          constructor
          · rintro ⟨q, q1, q2, q3⟩; exact ⟨q, q1, by rw [← hs' q (by omega)]; exact q2, q3⟩
          · rintro ⟨q, q1, q2, q3⟩; exact ⟨q, q1, by rw [hs' q (by omega)]; exact q2, q3⟩
        refine ⟨?_, hdi.xle, ?_, ?_, ?_, by rw [← hhid _ hdi.xle]; exact hdi.hr, by rw [← hhid _ hdi.xle]; exact hdi.ext, ?_, hdi.size, hdi.defers, ?_, ?_⟩
        · intro p r hp hD hb hr; rw [← hs' r hr]; exact hdi.down p r hp (by rw [hs' p hp]; exact hD) hb hr
        · intro p hp hD; exact hdi.below p hp (by rw [hs' p hp]; exact hD)
        · intro p hp hX; rw [← hs' p (Nat.lt_of_lt_of_le hp hdi.xle)]; exact hdi.done p hp hX
        · intro hlt; obtain ⟨k1, k2⟩ := hdi.next hlt; exact ⟨k1, by rw [← hs' _ hlt]; exact k2⟩
        · intro q b g hq hD hb; exact hdi.unborn q b g hq (by rw [hs' q (Nat.lt_of_lt_of_le hq hdi.xle)]; exact hD) hb
        · intro j t hj hn; exact hdi.named j t hj fun q hq hD => hn q hq (by rw [← hs' q hq]; exact hD)
        · intro q t hq hD; exact hdi.vals q t hq (by rw [hs' q hq]; exact hD)
      have hcnt' : ((List.range ops.size).filter fun j => !(listed.setIfInBounds ao'.ix true).getD j true).length < ((List.range ops.size).filter fun j => !listed.getD j true).length := by
        rw [hix]
        have hsub : ((List.range ops.size).filter fun j => !(listed.setIfInBounds i true).getD j true) = ((List.range ops.size).filter fun j => !listed.getD j true).filter (fun j => j != i) := by
          rw [List.filter_filter]
          apply List.filter_congr
          intro j hj
          have hj' : j < ops.size := by simpa using hj
          by_cases e : j = i
          · subst e; simp [Array.getD_eq_getD_getElem?, Array.getElem?_setIfInBounds, hsz, hj']
          · simp [Array.getD_eq_getD_getElem?, Array.getElem?_setIfInBounds_ne (fun e' => e e'.symm), e]
        rw [hsub]
        have hmem : i ∈ (List.range ops.size).filter fun j => !listed.getD j true := List.mem_filter.2 ⟨by simp [hi'], by rw [hl]; rfl⟩
        exact List.length_filter_lt_length_iff_exists.2 ⟨i, hmem, by simp⟩
      refine ih _ x' a2 w2 ρ (by simp [hsz]) hdi' (fun hf => ?_) (by omega)
      -- none is left
      subst hf
      have h0 : ((List.range ops.size).filter fun j => !(listed.setIfInBounds ao'.ix true).getD j true) = [] := List.length_eq_zero_iff.1 (by omega)
      apply List.eq_nil_iff_forall_not_mem.2
      intro j hj
      obtain ⟨k1, o2, k2, _⟩ := mem_ready.1 hj
      have : j ∈ ((List.range ops.size).filter fun j => !(listed.setIfInBounds ao'.ix true).getD j true) := by
        simp only [List.mem_filter, List.mem_range]
        exact ⟨(Array.getElem?_eq_some_iff.1 k2).1, by rw [k1]; rfl⟩
      rw [h0] at this
      cases this
  -- the beginning: none has run
  obtain ⟨x, x1, x2, x3⟩ : ∃ x, x ≤ L.length ∧ (∀ r, r < x → isXat L r = false) ∧ (x < L.length → isXat L x = true) := by
    by_cases e : L.length = 0
    · exact ⟨0, by omega, fun r hr => by omega, fun h => by omega⟩
    · cases h0 : isXat L 0 with
      | true => exact ⟨0, by omega, fun r hr => by omega, fun _ => h0⟩
      | false =>
        obtain ⟨x, a1, a2, a3, a4⟩ := next_x (isXat L) L.length _ 0 rfl (by omega)
        refine ⟨x, a2, fun r hr => ?_, a4⟩
        by_cases e' : r = 0
        · rw [e']; exact h0
        · exact a3 r (by omega) hr
  have hD0 : ∀ q, q < L.length → Dl (Array.replicate ops.size false) q = false := by
    intro q hq
    obtain ⟨ao, o, h1⟩ := hall q hq
    rw [hDl _ _ _ h1.get]
    have hix : ao.ix < ops.size := (Array.getElem?_eq_some_iff.1 h1.op).1
    simp [Array.getD_eq_getD_getElem?, Array.getElem?_replicate, hix]
  have hlive : ∀ (b : Nat) ob, (hideB (hidB S (Dl (Array.replicate ops.size false)) x) (S.Hs x))[b]? = some ob → ob ≠ .dead → H[b]? = some ob := by
    intro b ob hb hd
    obtain ⟨e1, e2⟩ := hideB_live hb hd
    have hlt : b < H.length := by
      rcases Nat.lt_or_ge b H.length with h' | h'
      · exact h'
      · obtain ⟨q, q1, q2, q3⟩ := calm_new hS (y := 0) (by rw [hH0]; exact h') x1 (fun p _ p2 => x2 p p2) (Nat.zero_le _) (List.getElem?_eq_some_iff.1 e1).1
        have : hidB S (Dl (Array.replicate ops.size false)) x b = true := hidB_iff.2 ⟨q, q2, hD0 q (by omega), q3⟩
        rw [this] at e2; cases e2
    rw [calm_keep hS (y := 0) (by rw [hH0]; exact hlt) x1 (fun p _ p2 => x2 p p2) (Nat.zero_le _), hH0] at e1
    exact e1
  have hlen0 : H.length ≤ (hideB (hidB S (Dl (Array.replicate ops.size false)) x) (S.Hs x)).length := by
    rw [hideB_len]
    have := len_mono hS (p := 0) (r := x) (by omega) x1
    rw [hH0] at this; exact this
  have h00 : ∀ (b : Nat), b < H.length → (hideB (hidB S (Dl (Array.replicate ops.size false)) x) (S.Hs x))[b]? = H[b]? := by
    intro b hb
    rw [hideB_get, calm_keep hS (y := 0) (by rw [hH0]; exact hb) x1 (fun p _ p2 => x2 p p2) (Nat.zero_le _), hH0]
    have : hidB S (Dl (Array.replicate ops.size false)) x b = false := by
      cases hh : hidB S (Dl (Array.replicate ops.size false)) x b with
      | false => rfl
      | true =>
        obtain ⟨q, q1, _, q3⟩ := hidB_iff.1 hh
        have := (born_at hS (by omega) q3).1
        have := len_mono hS (p := 0) (r := q) (by omega) (by omega)
        rw [hH0] at this; omega
    rw [this]; simp
  have hDI : DI P env S L ops names nt ds B H μ w (Dl (Array.replicate ops.size false)) x a w μ := by
    refine ⟨?_, x1, ?_, ?_, ?_, hH.hide hlen0 hlive, (Ext.refl H μ w).pad hlen0 hlive h00, ?_, hI.size, hI.defers, ?_, ?_⟩
    · intro p r hp hD; rw [hD0 p hp] at hD; cases hD
    · intro p hp hD; rw [hD0 p hp] at hD; cases hD
    · intro p hp hX; rw [x2 p hp] at hX; cases hX
    · intro hlt; exact ⟨x3 hlt, hD0 x hlt⟩
    · intro q b g hq _ hb
      refine hH.fresh b g ?_
      have := (born_at hS (by omega) hb).1
      have := len_mono hS (p := 0) (r := q) (by omega) (by omega)
      rw [hH0] at this; omega
    · intro j t hj _; exact hI.named j t hj (by simp)
    · intro q t hq hD; rw [hD0 q hq] at hD; cases hD
  refine key ops.size _ x a w μ (by simp) hDI (fun h0 => ?_) ?_
  · apply List.eq_nil_iff_forall_not_mem.2
    intro j hj
    obtain ⟨_, o2, k2, _⟩ := mem_ready.1 hj
    have := (Array.getElem?_eq_some_iff.1 k2).1
    omega
  · have := List.length_filter_le (fun i => !(Array.replicate ops.size false).getD i true) (List.range ops.size)
    simpa using this
end main
end Go.Ai
