/- A part of what the law leans on: the abstract machine, the contracts, the rows. -/
import Derived.Test.YtdpjeplagapdgaaK3
import Derived.LoopN
import Derived.Scope
/- The abstract machine's code, functions and programs, and that they do as the model's. -/
namespace Go.Ai
set_option linter.unusedSectionVars false
variable [DrMode]
set_option linter.unusedVariables false
set_option linter.unusedSimpArgs false

inductive ACode where
  | skip
  | ret
  | lab
  | reg (draw : Bool) (ops : List AOper) (outs : List (Nat × Nat))
  | seq (a b : ACode)
  | cond (c : AOpd) (t e : ACode)
  | block (id : Nat) (b : ACode)
  | loop (b : ACode)
  | scope (b : ACode)
  | exit (id : Nat)
inductive Ex where
  | norm
  | ret
  | exit (id : Nat)
  | pan (v : AV)
abbrev St := List AV × Heap

def applyOuts (env loc : List AV) : List (Nat × Nat) → List AV
  | [] => env
  | (j, d) :: r => applyOuts (env.set j (loc.getD d .un)) loc r
def blankOuts (env : List AV) : List (Nat × Nat) → List AV
  | [] => env
  | (j, _) :: r => blankOuts (env.set j .un) r
def iter (f : St → Option (Ex × St)) : Nat → St → Option (Ex × St)
  | 0, _ => none
  | n + 1, st => match f st with
    | some (.norm, st') => iter f n st'
    | r => r
def runC (cl : Caller) (k : Nat) : ACode → St → Option (Ex × St)
  | .skip, st => some (.norm, st)
  | .lab, st => some (.norm, st)
  | .ret, st => some (.ret, st)
  | .exit id, st => some (.exit id, st)
  | .reg false ops outs, st => (match runOps cl st.1 ops [] st.2 with
    | some (.ok loc H) => some (.norm, (applyOuts st.1 loc outs, H))
    | some (.pan v H) => some (.pan v, (blankOuts st.1 outs, H))
    | none => none)
  | .reg true ops outs, st => (match runDraw cl st.1 ops [] [] [] st.2 with
    | some (loc, H) => some (.norm, (applyOuts st.1 loc outs, H))
    | none => none)
  | .seq a b, st => (match runC cl k a st with
    | some (.norm, st') => runC cl k b st'
    | r => r)
  | .cond c t e, st => (match evalOpd st.1 [] c with
    | .bool true => runC cl k t st
    | .bool false => runC cl k e st
    | _ => none)
  | .block id b, st => (match runC cl k b st with
    | some (.exit id', st') => if id' = id then some (.norm, st') else some (.exit id', st')
    | r => r)
  | .loop b, st => iter (runC cl k b) k st
  | .scope b, st => runC cl k b st

def chkOuts (names : List Tmp) (dsts : List (Option Tmp)) (outs : List (Nat × Nat)) : Bool :=
  (outs.all fun p => match names[p.1]? with
    | some t => dsts[p.2]? == some (some t) && !(dsts.take p.2).contains (some t)
    | none => false) &&
  ((List.range names.length).all fun j => match names[j]? with
    | some t => !dsts.contains (some t) || outs.any fun p => p.1 == j
    | none => true)
def chkC (P : Program) (names : List Tmp) (nt : Nat) : Code → ACode → Bool
  | .skip, .skip => true
  | .ret, .ret => true
  | .label _, .lab => true
  | .exit id, .exit id' => id == id'
  | .region _ ops draw, .reg draw' l outs => draw == draw' && (if draw then P.follows .mixedOrders && chkDraw P names nt ops l else l.map (·.ix) == List.range ops.size && chkOps P names nt ops [] l) && chkOuts names (dstsOf ops [] l) outs
  | .seq a b, .seq a' b' => chkC P names nt a a' && chkC P names nt b b'
  | .cond c t e, .cond c' t' e' => chkOpd names [] c c' && chkC P names nt t t' && chkC P names nt e e'
  | .block id b, .block id' b' => id == id' && chkC P names nt b b'
  | .loop b, .loop b' => chkC P names nt b b'
  | .scope b, .scope b' => chkC P names nt b b'
  | _, _ => false

/-- A frame of the model's, and what the abstract machine holds in its place. -/
structure FInv (names : List Tmp) (nt : Nat) (ds : List Deferred) (env : List AV) (μ : Mu) (a : Act) : Prop where
  len : env.length = names.length
  size : a.tmps.size = nt
  defers : a.defers = ds
  named : ∀ (j : Nat) t, names[j]? = some t → VR μ (env.getD j .un) (a.tmps.getD t undef)
def exR (μ : Mu) : Ex → Exit → Prop
  | .norm, .normal => True
  | .ret, .ret => True
  | .exit id, .exit id' => id = id'
  | .pan v, .panic chain => ∃ u, chain = [{ v := u, recovered := false }] ∧ VR μ v u
  | _, _ => False

variable {P : Program} {cl : Caller} {μ ν : Mu} {w : World} {B : Nat} {H : Heap} {names : List Tmp} {nt : Nat} {ds : List Deferred} {env loc : List AV} {a : Act}

theorem FInv.mono (h : FInv names nt ds env μ a) (hle : μ.le ν) : FInv names nt ds env ν a := ⟨h.len, h.size, h.defers, fun j t hj => (h.named j t hj).mono hle⟩
theorem FInv.inv (h : FInv names nt ds env μ a) : Inv names nt ds env [] [] μ a := ⟨h.size, h.defers, fun j t hj _ => h.named j t hj, fun d t hd => by simp at hd⟩
theorem applyOuts_len (loc : List AV) : ∀ (outs : List (Nat × Nat)) (env : List AV), (applyOuts env loc outs).length = env.length
  | [], env => rfl
  | (j, d) :: r, env => by rw [applyOuts, applyOuts_len loc r]; simp
theorem blankOuts_len : ∀ (outs : List (Nat × Nat)) (env : List AV), (blankOuts env outs).length = env.length
  | [], env => rfl
  | (j, d) :: r, env => by rw [blankOuts, blankOuts_len r]; simp
theorem applyOuts_good (good : Nat → AV → Prop) (loc : List AV) : ∀ (outs : List (Nat × Nat)) (env : List AV), (∀ p ∈ outs, good p.1 (loc.getD p.2 .un)) → (∀ j, j < env.length → good j (env.getD j .un) ∨ ∃ p ∈ outs, p.1 = j) → ∀ j, j < env.length → good j ((applyOuts env loc outs).getD j .un)
  | [], env, _, h2, j, hj => by
    rcases h2 j hj with h | ⟨p, hp, _⟩
    · exact h
    · simp at hp
  | (i, d) :: r, env, h1, h2, j, hj => by
    rw [applyOuts]
    refine applyOuts_good good loc r _ (fun p hp => h1 p (by simp [hp])) (fun k hk => ?_) j (by simpa using hj)
    simp only [List.length_set] at hk
    by_cases e : i = k
    · subst e
      left
      have := h1 (i, d) (by simp)
      simpa [List.getD_eq_getElem?_getD, List.getElem?_set, hk] using this
    · rcases h2 k hk with h | ⟨p, hp, e2⟩
      · left; simpa [List.getD_eq_getElem?_getD, List.getElem?_set_ne e] using h
      · simp only [List.mem_cons] at hp
        rcases hp with rfl | hp
        · exact absurd e2 e
        · exact .inr ⟨p, hp, e2⟩
theorem blankOuts_good (good : Nat → AV → Prop) (hun : ∀ j, good j .un) : ∀ (outs : List (Nat × Nat)) (env : List AV), (∀ j, j < env.length → good j (env.getD j .un) ∨ ∃ p ∈ outs, p.1 = j) → ∀ j, j < env.length → good j ((blankOuts env outs).getD j .un)
  | [], env, h2, j, hj => by
    rcases h2 j hj with h | ⟨p, hp, _⟩
    · exact h
    · simp at hp
  | (i, d) :: r, env, h2, j, hj => by
    rw [blankOuts]
    refine blankOuts_good good hun r _ (fun k hk => ?_) j (by simpa using hj)
    simp only [List.length_set] at hk
    by_cases e : i = k
    · subst e
      left
      have := hun i
      simpa [List.getD_eq_getElem?_getD, List.getElem?_set, hk] using this
    · rcases h2 k hk with h | ⟨p, hp, e2⟩
      · left; simpa [List.getD_eq_getElem?_getD, List.getElem?_set_ne e] using h
      · simp only [List.mem_cons] at hp
        rcases hp with rfl | hp
        · exact absurd e2 e
        · exact .inr ⟨p, hp, e2⟩
theorem chkOuts_cover {dsts : List (Option Tmp)} {outs : List (Nat × Nat)} (hc : chkOuts names dsts outs = true) {j : Nat} {t : Tmp} (hj : names[j]? = some t) (hm : some t ∈ dsts) : ∃ p ∈ outs, p.1 = j := by
  simp only [chkOuts, Bool.and_eq_true] at hc
  have := List.all_eq_true.1 hc.2 j (by simpa using (List.getElem?_eq_some_iff.1 hj).1)
  rw [hj] at this
  simp only [Bool.or_eq_true, Bool.not_eq_true'] at this
  rcases this with h | h
  · rw [List.contains_iff_mem.2 hm] at h; cases h
  · obtain ⟨p, hp, e⟩ := List.any_eq_true.1 h
    exact ⟨p, hp, by simpa using e⟩
theorem outs_inv {dsts : List (Option Tmp)} {outs : List (Nat × Nat)} (hl : env.length = names.length) (h : Inv names nt ds env loc dsts μ a) (hc : chkOuts names dsts outs = true) : FInv names nt ds (applyOuts env loc outs) μ a := by
  refine ⟨by rw [applyOuts_len, hl], h.size, h.defers, fun j t hj => ?_⟩
  have hjl : j < env.length := by rw [hl]; exact (List.getElem?_eq_some_iff.1 hj).1
  refine applyOuts_good (fun j v => ∀ t, names[j]? = some t → VR μ v (a.tmps.getD t undef)) loc outs env ?_ ?_ j hjl t hj
  · intro p hp t ht
    simp only [chkOuts, Bool.and_eq_true] at hc
    have := List.all_eq_true.1 hc.1 p hp
    rw [ht] at this
    simp only [Bool.and_eq_true, beq_iff_eq, Bool.not_eq_true'] at this
    exact h.locs p.2 t this.1 (fun hm => by rw [List.contains_iff_mem.2 hm] at this; simp at this)
  · intro k hk
    cases hn : names[k]? with
    | none => left; intro t ht; cases ht
    | some t =>
      by_cases hm : some t ∈ dsts
      · exact .inr (chkOuts_cover hc hn hm)
      · left; intro t' ht'; rw [Option.some.inj ht'.symm] at *; exact h.named k t hn hm
theorem blank_inv {dsts dsts' : List (Option Tmp)} {outs : List (Nat × Nat)} (hl : env.length = names.length) (h : Inv names nt ds env loc dsts' μ a) (hsub : ∀ t, some t ∈ dsts' → some t ∈ dsts) (hc : chkOuts names dsts outs = true) : FInv names nt ds (blankOuts env outs) μ a := by
  refine ⟨by rw [blankOuts_len, hl], h.size, h.defers, fun j t hj => ?_⟩
  have hjl : j < env.length := by rw [hl]; exact (List.getElem?_eq_some_iff.1 hj).1
  refine blankOuts_good (fun j v => ∀ t, names[j]? = some t → VR μ v (a.tmps.getD t undef)) (fun j t _ => .un _) outs env ?_ j hjl t hj
  intro k hk
  cases hn : names[k]? with
  | none => left; intro t ht; cases ht
  | some t =>
    by_cases hm : some t ∈ dsts'
    · exact .inr (chkOuts_cover hc hn (hsub t hm))
    · left; intro t' ht'; rw [Option.some.inj ht'.symm] at *; exact h.named k t hn hm

/-- THE CODE DOES AS THE MODEL'S. -/
theorem code_sound (hcl : Sound P cl) (k : Nat) : ∀ (ac : ACode) (c : Code) (Q : Exit → Act → World → Prop) (μ : Mu) (H : Heap) (env : List AV) (a : Act) (w : World) (ex : Ex) (st' : St), chkC P names nt c ac = true → FInv names nt ds env μ a → HR B μ H w → runC cl k ac (env, H) = some (ex, st') →
    (∀ e a' w' ν, exR ν ex e → FInv names nt ds st'.1 ν a' → HR B ν st'.2 w' → Ext H st'.2 μ ν w w' → Q e a' w') → c.wp P Q a w := by
  intro ac
  induction ac with
  | skip =>
    intro c Q μ H env a w ex st' hc hI hH hr hQ
    cases c <;> simp only [chkC] at hc <;> try (cases hc; done)
    simp only [runC] at hr; cases hr
    exact wp_skip (hQ .normal a w μ trivial hI hH (Ext.refl _ _ _))
  | lab =>
    intro c Q μ H env a w ex st' hc hI hH hr hQ
    cases c <;> simp only [chkC] at hc <;> try (cases hc; done)
    simp only [runC] at hr; cases hr
    exact wp_label (hQ .normal a w μ trivial hI hH (Ext.refl _ _ _))
  | ret =>
    intro c Q μ H env a w ex st' hc hI hH hr hQ
    cases c <;> simp only [chkC] at hc <;> try (cases hc; done)
    simp only [runC] at hr; cases hr
    exact wp_ret (hQ .ret a w μ trivial hI hH (Ext.refl _ _ _))
  | exit id =>
    intro c Q μ H env a w ex st' hc hI hH hr hQ
    cases c <;> simp only [chkC] at hc <;> try (cases hc; done)
    simp only [beq_iff_eq] at hc; subst hc
    simp only [runC] at hr; cases hr
    exact wp_exit (hQ (.exit _) a w μ rfl hI hH (Ext.refl _ _ _))
  | reg draw l outs =>
    intro c Q μ H env a w ex st' hc hI hH hr hQ
    cases c <;> simp only [chkC] at hc <;> try (cases hc; done)
    rename_i id ops draw'
    simp only [Bool.and_eq_true, beq_iff_eq] at hc
    obtain ⟨⟨rfl, h1⟩, h2⟩ := hc
    cases draw' with
    | false =>
      simp only [Bool.false_eq_true, if_false, Bool.and_eq_true, beq_iff_eq] at h1
      simp only [runC] at hr
      refine wp_region ?_
      rw [← h1.1]
      cases hro : runOps cl env l [] H with
      | none => rw [hro] at hr; cases hr
      | some out =>
        rw [hro] at hr
        refine seq_sound hcl l [] [] μ H a w out h1.2 hI.inv hH hro ?_ ?_
        · intro loc1 H1 a' w' ν e hI' hH' hx
          subst e; cases hr
          exact hQ .normal a' w' ν trivial (outs_inv hI.len hI' h2) hH' hx
        · intro v H1 u a' w' ν dsts' e hv hsub hI' hH' hx
          subst e; cases hr
          obtain ⟨loc', hI'⟩ := hI'
          exact hQ _ a' w' ν ⟨u, rfl, hv⟩ (blank_inv hI.len hI' hsub h2) hH' hx
    | true =>
      simp only [if_true, Bool.and_eq_true] at h1
      simp only [runC] at hr
      refine wp_region_any h1.1 ?_
      cases hro : runDraw cl env l [] [] [] H with
      | none => rw [hro] at hr; cases hr
      | some out =>
        obtain ⟨loc, H1⟩ := out
        rw [hro] at hr; cases hr
        refine draw_sound hcl h1.2 hI.inv (w := w.drew) hH.drew hro ?_
        intro a' w' ν hI' hH' hx
        exact hQ .normal a' w' ν trivial (outs_inv hI.len hI' h2) hH' ⟨hx.le, hx.len, hx.calm, hx.blk, hx.frame, hx.size, hx.os, hx.tape, hx.output, fun hm => Nat.le_trans (Nat.le_succ _) (hx.drawn hm), hx.im⟩
  | seq x y ihx ihy =>
    intro c Q μ H env a w ex st' hc hI hH hr hQ
    cases c <;> simp only [chkC] at hc <;> try (cases hc; done)
    simp only [Bool.and_eq_true] at hc
    simp only [runC] at hr
    refine wp_seq ?_
    cases hx : runC cl k x (env, H) with
    | none => rw [hx] at hr; cases hr
    | some r =>
      obtain ⟨e1, st1⟩ := r
      rw [hx] at hr
      refine ihx _ _ μ H env a w e1 st1 hc.1 hI hH hx ?_
      intro e a' w' ν he hI' hH' hxt
      cases e1 with
      | norm =>
        cases e <;> simp only [exR] at he
        simp only at hr
        simp only [Exit.then]
        exact ihy _ Q ν st1.2 st1.1 a' w' ex st' hc.2 hI' hH' hr (fun e a2 w2 ρ h1 h2 h3 h4 => hQ e a2 w2 ρ h1 h2 h3 (hxt.trans h4))
      | ret =>
        cases e <;> simp only [exR] at he
        cases hr
        exact hQ .ret a' w' ν trivial hI' hH' hxt
      | exit id =>
        cases e <;> simp only [exR] at he
        subst he
        cases hr
        exact hQ (.exit _) a' w' ν rfl hI' hH' hxt
      | pan v =>
        cases e <;> simp only [exR] at he
        cases hr
        exact hQ (.panic _) a' w' ν he hI' hH' hxt
  | cond cnd t f iht ihf =>
    intro c Q μ H env a w ex st' hc hI hH hr hQ
    cases c <;> simp only [chkC] at hc <;> try (cases hc; done)
    rename_i c0 x y
    simp only [Bool.and_eq_true] at hc
    obtain ⟨⟨h1, h2⟩, h3⟩ := hc
    have hv := hI.inv.opd h1
    simp only [runC] at hr
    split at hr
    · rename_i hb
      rw [hb] at hv
      have : a.eval c0 = .bool true := by generalize a.eval c0 = u at hv; cases hv; rfl
      exact wp_cond_true this (iht _ Q μ H env a w ex st' h2 hI hH hr hQ)
    · rename_i hb
      rw [hb] at hv
      have : a.eval c0 = .bool false := by generalize a.eval c0 = u at hv; cases hv; rfl
      exact wp_cond_false this (ihf _ Q μ H env a w ex st' h3 hI hH hr hQ)
    · cases hr
  | block id b ih =>
    intro c Q μ H env a w ex st' hc hI hH hr hQ
    cases c <;> simp only [chkC] at hc <;> try (cases hc; done)
    simp only [Bool.and_eq_true, beq_iff_eq] at hc
    obtain ⟨rfl, hc⟩ := hc
    simp only [runC] at hr
    refine wp_block ?_
    cases hx : runC cl k b (env, H) with
    | none => rw [hx] at hr; cases hr
    | some r =>
      obtain ⟨e1, st1⟩ := r
      rw [hx] at hr
      refine ih _ _ μ H env a w e1 st1 hc hI hH hx ?_
      intro e a' w' ν he hI' hH' hxt
      cases e1 with
      | norm =>
        cases e <;> simp only [exR] at he
        cases hr
        exact hQ .normal a' w' ν trivial hI' hH' hxt
      | ret =>
        cases e <;> simp only [exR] at he
        cases hr
        exact hQ .ret a' w' ν trivial hI' hH' hxt
      | exit id' =>
        cases e <;> simp only [exR] at he
        subst he
        simp only at hr
        simp only [Exit.inBlock]
        split at hr
        · rename_i e; cases hr; rw [if_pos e]; exact hQ .normal a' w' ν trivial hI' hH' hxt
        · rename_i e; cases hr; rw [if_neg e]; exact hQ (.exit _) a' w' ν rfl hI' hH' hxt
      | pan v =>
        cases e <;> simp only [exR] at he
        cases hr
        exact hQ (.panic _) a' w' ν he hI' hH' hxt
  | loop b ih =>
    intro c Q μ H env a w ex st' hc hI hH hr hQ
    cases c <;> simp only [chkC] at hc <;> try (cases hc; done)
    rename_i c0
    simp only [runC] at hr
    refine wp_loop_rounds k ?_
    have key : ∀ (n : Nat) (μ : Mu) (H : Heap) (env : List AV) (a : Act) (w : World), FInv names nt ds env μ a → HR B μ H w → iter (runC cl k b) n (env, H) = some (ex, st') →
        (∀ e a' w' ν, exR ν ex e → FInv names nt ds st'.1 ν a' → HR B ν st'.2 w' → Ext H st'.2 μ ν w w' → Q e a' w') → Code.rounds P c0 Q n a w := by
      intro n
      induction n with
      | zero => intro μ H env a w _ _ hr _; simp [iter] at hr
      | succ n ihn =>
        intro μ H env a w hI hH hr hQ
        rw [rounds_succ]
        simp only [iter] at hr
        cases hx : runC cl k b (env, H) with
        | none => rw [hx] at hr; cases hr
        | some r =>
          obtain ⟨e1, st1⟩ := r
          rw [hx] at hr
          refine ih _ _ μ H env a w e1 st1 hc hI hH hx ?_
          intro e a' w' ν he hI' hH' hxt
          cases e1 with
          | norm =>
            cases e <;> simp only [exR] at he
            simp only at hr
            simp only [Exit.then]
            exact ihn ν st1.2 st1.1 a' w' hI' hH' hr (fun e a2 w2 ρ h1 h2 h3 h4 => hQ e a2 w2 ρ h1 h2 h3 (hxt.trans h4))
          | ret =>
            cases e <;> simp only [exR] at he
            cases hr
            exact hQ .ret a' w' ν trivial hI' hH' hxt
          | exit id =>
            cases e <;> simp only [exR] at he
            subst he
            cases hr
            exact hQ (.exit _) a' w' ν rfl hI' hH' hxt
          | pan v =>
            cases e <;> simp only [exR] at he
            cases hr
            exact hQ (.panic _) a' w' ν he hI' hH' hxt
    exact key k μ H env a w hI hH hr hQ
  | scope b ih =>
    intro c Q μ H env a w ex st' hc hI hH hr hQ
    cases c <;> simp only [chkC] at hc <;> try (cases hc; done)
    simp only [runC] at hr
    refine wp_scope_straight ?_
    refine ih _ _ μ H env a w ex st' hc hI hH hr ?_
    intro e a' w' ν he hI' hH' hxt
    have := hQ e a' w' ν he hI' hH' hxt
    cases ex <;> cases e <;> simp only [exR] at he <;> simpa only [Exit.noGoto] using this
end Go.Ai
/- The abstract machine's functions and programs do as the model's. -/
namespace Go.Ai
set_option linter.unusedSectionVars false
variable [DrMode]
set_option linter.unusedVariables false
set_option linter.unusedSimpArgs false

inductive ARes where
  | t (j : Nat)
  | cell (j : Nat) (n : Option Nat)
structure AFn where
  np : Nat
  names : List Tmp
  nt : Nat
  body : ACode
  res : List ARes
structure AProg where
  fns : List (Nat × AFn)
  ext : Nat → Option (List AV → Heap → Option (Out AV))

def resV (env : List AV) (H : Heap) : ARes → Option AV
  | .t j => some (env.getD j .un)
  | .cell j none => (match env.getD j .un with
    | .ptr b g o => (match nstep .load1 [.ptr b g o] (fun b => H[b]?) with
      | some (.val v) => some v
      | _ => none)
    | _ => none)
  | .cell j (some n) => (match env.getD j .un with
    | .ptr b g o => (match nstep (.loadN n) [.ptr b g o] (fun b => H[b]?) with
      | some (.val v) => some v
      | _ => none)
    | _ => none)
def resVs (env : List AV) (H : Heap) : List ARes → Option (List AV)
  | [] => some []
  | r :: rs => match resV env H r, resVs env H rs with
    | some v, some vs => some (v :: vs)
    | _, _ => none
def pack : List AV → AV
  | [v] => v
  | vs => .tup vs
def finish (F : AFn) : Option (Ex × St) → Option (Out AV)
  | some (.norm, st) | some (.ret, st) => (match resVs st.1 st.2 F.res with
    | some vs => some (.ok (pack vs) st.2)
    | none => none)
  | some (.pan v, st) => some (.pan v st.2)
  | _ => none
def env0 (F : AFn) (args : List AV) : List AV := args ++ List.replicate (F.names.length - F.np) .un
def callK (A : AProg) : Nat → Caller
  | 0 => fun _ _ _ => none
  | k + 1 => fun f args H => match A.ext f with
    | some x => x args H
    | none => match A.fns.lookup f with
      | none => none
      | some F => if args.length = F.np then finish F (runC (callK A k) k F.body (env0 F args, H)) else none

def chkRes (P : Program) (names : List Tmp) : List ResultVar → List ARes → Bool
  | [], [] => true
  | .tmp t :: rs, .t j :: ss => names[j]? == some t && chkRes P names rs ss
  | .cell t ty :: rs, .cell j none :: ss => names[j]? == some t && (match P.underlying ty with | some (.struct _) | some (.array ..) | none => false | _ => true) && chkRes P names rs ss
  | .cell t ty :: rs, .cell j (some n) :: ss => names[j]? == some t && (match P.info? ty with | some i => i.size == n | none => false) && (P.underlying ty matches some (.struct _) | some (.array ..)) && chkRes P names rs ss
  | _, _ => false
def chkFn (P : Program) (f : Nat) (F : AFn) : Bool :=
  match P.funcs[f]? with
  | none => false
  | some fn => match fn.body with
    | none => false
    | some c => fn.name != "runtime.NumGoroutine" && F.names.take F.np == List.range F.np && decide (F.np ≤ F.names.length) && F.nt == fn.ntmps && decide (F.np ≤ fn.ntmps) && chkRes P F.names fn.results.toList F.res && chkC P F.names fn.ntmps c F.body

variable {P : Program} {μ : Mu} {w : World} {B : Nat} {H : Heap} {names : List Tmp} {nt : Nat} {ds : List Deferred} {env : List AV} {a : Act}

def resOne (tmps : Array Value) : ResultVar → Sem Value
  | .tmp t => pure (tmps.getD t undef)
  | .cell b t => do loadVar t (← asAddr (tmps.getD b undef))
theorem results_eq (fn : Func) (tmps : Array Value) : results fn tmps = (do
    let vs ← fn.results.mapM (resOne tmps)
    pure (if h : vs.size = 1 then vs[0] else .tuple vs)) := by
  unfold results
  congr 1
theorem res_sound (hI : FInv names nt ds env μ a) (hH : HR B μ H w) : ∀ (rs : List ResultVar) (ss : List ARes) (vs : List AV), chkRes P names rs ss = true → resVs env H ss = some vs →
    ∃ us : List Value, (rs.mapM (resOne a.tmps)).run P w = .ok us w ∧ VRs μ vs us := by
  intro rs
  induction rs with
  | nil =>
    intro ss vs hc hr
    cases ss with
    | nil => simp [resVs] at hr; subst hr; exact ⟨[], by simp, .nil μ⟩
    | cons s ss => simp [chkRes] at hc
  | cons r rs ih =>
    intro ss vs hc hr
    cases ss with
    | nil => cases r <;> simp [chkRes] at hc
    | cons s ss =>
      have key : ∀ (v : AV) (u : Value), resV env H s = some v → chkRes P names rs ss = true → (resOne a.tmps r).run P w = .ok u w → VR μ v u → ∃ us : List Value, ((r :: rs).mapM (resOne a.tmps)).run P w = .ok us w ∧ VRs μ vs us := by
        intro v u h1 h2 h3 h4
        simp only [resVs, h1] at hr
        cases hrs : resVs env H ss with
        | none => rw [hrs] at hr; cases hr
        | some ws =>
          rw [hrs] at hr; cases hr
          obtain ⟨us, hu, hv⟩ := ih ss ws h2 hrs
          refine ⟨u :: us, ?_, .cons h4 hv⟩
          rw [List.mapM_cons]
          simp only [Sem.run_bind]
          rw [h3]
          simp only [Result.andThen_ok]
          rw [hu]
          simp
      cases r with
      | tmp t =>
        cases s with
        | t j =>
          simp only [chkRes, Bool.and_eq_true, beq_iff_eq] at hc
          exact key _ _ rfl hc.2 rfl (hI.named j t hc.1)
        | cell j n => simp [chkRes] at hc
      | cell t ty =>
        cases s with
        | t j => simp [chkRes] at hc
        | cell j n =>
          have hptr : ∀ v, resV env H (.cell j n) = some v → ∃ b g o, env.getD j .un = .ptr b g o := by
            intro v hv
            cases n with
            | none =>
              simp only [resV] at hv
              split at hv
              · rename_i b g o hl; exact ⟨b, g, o, hl⟩
              · cases hv
            | some n =>
              simp only [resV] at hv
              split at hv
              · rename_i b g o hl; exact ⟨b, g, o, hl⟩
              · cases hv
          cases hv : resV env H (.cell j n) with
          | none => simp [resVs, hv] at hr
          | some v =>
            obtain ⟨b, g, of, hp⟩ := hptr v hv
            cases n with
            | none =>
              simp only [chkRes, Bool.and_eq_true, beq_iff_eq] at hc
              obtain ⟨⟨h1, h2⟩, h3⟩ := hc
              have hn := hI.named j t h1
              rw [hp] at hn
              cases hu : a.tmps.getD t undef <;> rw [hu] at hn <;> try (cases hn; done)
              cases hn
              rename_i at_ hat
              simp only [resV, hp, nstep] at hv
              split at hv
              · rename_i hs
                split at hs
                · rename_i hb
                  split at hs
                  · rename_i hg; subst hg
                    obtain ⟨v', hc', e⟩ := Option.map_eq_some_iff.1 hs
                    cases e; cases hv
                    obtain ⟨a2, ha2, hob⟩ := hH.ob b _ hb (by simp)
                    simp only [Ob.gen] at ha2
                    rw [hat] at ha2; cases ha2
                    obtain ⟨u, hu1, hu2⟩ := hob.2.2.1 of v hc'
                    have hA := notAggDesc (P := P) (w := w) h2
                    exact key v u (by simp only [resV, hp, nstep, hb, if_true, hc', Option.map_some]) h3 (by simp [resOne, hu, asAddr, loadVar, hA, hu1]) hu2
                  · cases hs
                · cases hs
              · cases hv
            | some n =>
              simp only [chkRes, Bool.and_eq_true, beq_iff_eq] at hc
              obtain ⟨⟨⟨h1, h2⟩, h4⟩, h3⟩ := hc
              have hn := hI.named j t h1
              rw [hp] at hn
              cases hu : a.tmps.getD t undef <;> rw [hu] at hn <;> try (cases hn; done)
              cases hn
              rename_i at_ hat
              split at h2
              · rename_i i hi
                simp only [resV, hp, nstep] at hv
                split at hv
                · rename_i hs
                  split at hs
                  · rename_i hb
                    split at hs
                    · rename_i hg
                      obtain ⟨hg, hl⟩ := hg
                      subst hg
                      cases hs; cases hv
                      obtain ⟨a2, ha2, hob⟩ := hH.ob b _ hb (by simp)
                      simp only [Ob.gen] at ha2
                      rw [hat] at ha2; cases ha2
                      obtain ⟨us, hus, hr2⟩ := run_cells (P := P) hob of n hl
                      have hA := aggDesc (P := P) (w := w) h4
                      have hs : (sizeOf ty).run P w = .ok n w := by rw [run_sizeOf w hi]; simp only [beq_iff_eq] at h2; simp [Program.cellsOf, hi, h2]
                      exact key _ (.agg us.toArray) (by simp only [resV, hp, nstep, hb]; rw [if_pos ⟨trivial, hl⟩]) h3 (by simp [resOne, hu, asAddr, loadVar, hA, hs, hus]) (.agg' (by simpa using hr2))
                    · cases hs
                  · cases hs
                · cases hv
              · cases h2

theorem enters_of {f : Nat} {fn : Func} (hf : P.funcs[f]? = some fn) (hb : fn.body.isSome = true) (hn : (fn.name != "runtime.NumGoroutine") = true) : Enters P f := by
  intro args w
  have hn' : (fn.name == "runtime.NumGoroutine") = false := by simpa [bne] using hn
  have hbn : fn.body.isNone = false := by cases h : fn.body <;> simp_all
  simp only [callFunc, Sem.run_bind, run_program, Result.andThen_ok, hf, hn', Bool.false_eq_true, if_false, hbn, Sem.run_pure]

/-- What is asked of the functions that are given from outside. -/
def ExtSound (P : Program) (x : Nat → Option (List AV → Heap → Option (Out AV))) : Prop := ∀ f g, x f = some g → ∀ args H out, g args H = some out → Enters P f ∧ H.length ≤ out.heap.length ∧ ∀ B μ w us, HR B μ H w → VRs μ args us → Calls P f us.toArray w (OutR B μ H w out)

theorem lookup_mem {f : Nat} {F : AFn} : ∀ {l : List (Nat × AFn)}, l.lookup f = some F → (f, F) ∈ l
  | [], h => by simp at h
  | (g, G) :: l, h => by
    rw [List.lookup_cons] at h
    by_cases e : f = g
    · subst e; simp at h; simp [h]
    · rw [show (f == g) = false by simpa using e] at h
      exact List.mem_cons_of_mem _ (lookup_mem h)
theorem iter_len {f : St → Option (Ex × St)} (hf : ∀ st ex st', f st = some (ex, st') → st.2.length ≤ st'.2.length) : ∀ (n : Nat) (st st' : St) (ex : Ex), iter f n st = some (ex, st') → st.2.length ≤ st'.2.length
  | 0, st, st', ex, h => by simp [iter] at h
  | n + 1, st, st', ex, h => by
    simp only [iter] at h
    cases hx : f st with
    | none => rw [hx] at h; cases h
    | some r =>
      obtain ⟨e, s⟩ := r
      rw [hx] at h
      have := hf st e s hx
      cases e with
      | norm => exact Nat.le_trans this (iter_len hf n s st' ex h)
      | ret => cases h; exact this
      | exit id => cases h; exact this
      | pan v => cases h; exact this
theorem ops_len {cl : Caller} (hcl : Sound P cl) : ∀ (l : List AOper) (loc : List AV) (H : Heap) (out : Out (List AV)), runOps cl env l loc H = some out → H.length ≤ out.heap.length
  | [], loc, H, out, h => by simp [runOps] at h; subst h; exact Nat.le_refl _
  | o :: l, loc, H, out, h => by
    simp only [runOps] at h
    split at h
    · cases h
    · exact ops_len hcl l _ H out h
    · split at h
      · rename_i v H1 hop
        have h1 := op_len hcl hop
        exact Nat.le_trans h1 (ops_len hcl l _ H1 out h)
      · rename_i v H1 hop
        cases h
        exact op_len hcl hop
      · cases h
theorem draw_len {cl : Caller} (hcl : Sound P cl) : ∀ (l : List AOper) (loc : List AV) (ts bs : List (Option Nat)) (H : Heap) (loc' : List AV) (H' : Heap), runDraw cl env l loc ts bs H = some (loc', H') → H.length ≤ H'.length
  | [], loc, ts, bs, H, loc', H', h => by simp [runDraw] at h; rw [h.2]; exact Nat.le_refl _
  | o :: l, loc, ts, bs, H, loc', H', h => by
    simp only [runDraw] at h
    split at h
    · cases h
    · exact draw_len hcl l _ _ _ H loc' H' h
    · split at h
      · split at h
        · exact draw_len hcl l _ _ _ H loc' H' h
        · exact Nat.le_trans (by simp) (draw_len hcl l _ _ _ _ loc' H' h)
        · cases h
      · split at h
        · rename_i v H1 hop
          split at h
          · have h1 := op_len hcl hop
            simp only [Out.heap, hide_len] at h1
            have h2 := draw_len hcl l _ _ _ _ loc' H' h
            rw [unhide_len] at h2
            exact Nat.le_trans h1 h2
          · cases h
        · cases h
theorem code_len {cl : Caller} (hcl : Sound P cl) (k : Nat) : ∀ (ac : ACode) (st st' : St) (ex : Ex), runC cl k ac st = some (ex, st') → st.2.length ≤ st'.2.length := by
  intro ac
  induction ac with
  | skip | lab | ret | exit =>
    intro st st' ex h; simp only [runC] at h; cases h; exact Nat.le_refl _
  | reg draw l outs =>
    intro st st' ex h
    cases draw with
    | false =>
      simp only [runC] at h
      cases hr : runOps cl st.1 l [] st.2 with
      | none => rw [hr] at h; cases h
      | some out =>
        rw [hr] at h
        have := ops_len hcl l _ _ out hr
        cases out <;> (cases h; exact this)
    | true =>
      simp only [runC] at h
      cases hr : runDraw cl st.1 l [] [] [] st.2 with
      | none => rw [hr] at h; cases h
      | some out => obtain ⟨loc, H1⟩ := out; rw [hr] at h; cases h; exact draw_len hcl l _ _ _ _ _ _ hr
  | seq x y ihx ihy =>
    intro st st' ex h
    simp only [runC] at h
    cases hx : runC cl k x st with
    | none => rw [hx] at h; cases h
    | some r =>
      obtain ⟨e, s⟩ := r
      rw [hx] at h
      have := ihx st s e hx
      cases e with
      | norm => exact Nat.le_trans this (ihy s st' ex h)
      | ret => cases h; exact this
      | exit id => cases h; exact this
      | pan v => cases h; exact this
  | cond c t f iht ihf =>
    intro st st' ex h
    simp only [runC] at h
    split at h
    · exact iht _ _ _ h
    · exact ihf _ _ _ h
    · cases h
  | block id b ih =>
    intro st st' ex h
    simp only [runC] at h
    cases hx : runC cl k b st with
    | none => rw [hx] at h; cases h
    | some r =>
      obtain ⟨e, s⟩ := r
      rw [hx] at h
      have := ih st s e hx
      cases e with
      | exit id' => simp only at h; split at h <;> (cases h; exact this)
      | norm => cases h; exact this
      | ret => cases h; exact this
      | pan v => cases h; exact this
  | loop b ih =>
    intro st st' ex h
    simp only [runC] at h
    exact iter_len (fun st ex st' h => ih st st' ex h) k st st' ex h
  | scope b ih =>
    intro st st' ex h
    simp only [runC] at h
    exact ih st st' ex h

/-- THE PROGRAM DOES AS THE MODEL'S. -/
theorem prog_sound {A : AProg} (hext : ExtSound P A.ext) (hfns : (A.fns.all fun p => chkFn P p.1 p.2) = true) : ∀ k, Sound P (callK A k) := by
  intro k
  induction k with
  | zero => intro f args H out h; cases h
  | succ k ih =>
    intro f args H out h
    simp only [callK] at h
    split at h
    · rename_i x hx; exact hext f x hx args H out h
    · split at h
      · cases h
      · rename_i F hF
        split at h
        · rename_i hnp
          have hchk := List.all_eq_true.1 hfns (f, F) (lookup_mem hF)
          simp only [chkFn] at hchk
          split at hchk
          · cases hchk
          · rename_i fn hfn
            split at hchk
            · cases hchk
            · rename_i c hc
              simp only [Bool.and_eq_true, beq_iff_eq, decide_eq_true_eq] at hchk
              obtain ⟨⟨⟨⟨⟨⟨h1, h2⟩, h3⟩, h4⟩, h5⟩, h6⟩, h7⟩ := hchk
              refine ⟨enters_of hfn (by rw [hc]; rfl) h1, ?_, ?_⟩
              · cases hx : runC (callK A k) k F.body (env0 F args, H) with
                | none => rw [hx] at h; cases h
                | some r =>
                  obtain ⟨e, s⟩ := r
                  rw [hx] at h
                  have := code_len ih k F.body _ s e hx
                  cases e with
                  | norm => simp only [finish] at h; split at h <;> (cases h; try exact this)
                  | ret => simp only [finish] at h; split at h <;> (cases h; try exact this)
                  | exit id => cases h
                  | pan v => cases h; exact this
              · intro B μ w us hH hv
                refine calls_of_wp hfn hc ?_
                cases hx : runC (callK A k) k F.body (env0 F args, H) with
                | none => rw [hx] at h; cases h
                | some r =>
                  obtain ⟨e, s⟩ := r
                  rw [hx] at h
                  have hul : us.length = F.np := by rw [← hv.1, hnp]
                  have hI : FInv F.names fn.ntmps [] (env0 F args) μ { tmps := us.toArray ++ Array.replicate (fn.ntmps - us.toArray.size) undef, defers := [] } := by
                    refine ⟨by simp [env0, hnp]; omega, by simp; omega, rfl, fun j t hj => ?_⟩
                    by_cases hjn : j < F.np
                    · have e1 : (F.names.take F.np)[j]? = some t := by rw [List.getElem?_take, if_pos hjn]; exact hj
                      rw [h2] at e1
                      simp [hjn] at e1
                      subst e1
                      have e2 : (env0 F args).getD j .un = args[j]'(by omega) := by simp [env0, List.getD_eq_getElem?_getD, List.getElem?_append, hnp, hjn]
                      have e3 : (us.toArray ++ Array.replicate (fn.ntmps - us.toArray.size) undef).getD j undef = us[j]'(by omega) := by
                        rw [Array.getD_eq_getD_getElem?, Array.getElem?_append_left (by simpa using (by omega : j < us.length))]
                        simp [show j < us.length by omega]
                      rw [e2, e3]
                      exact hv.2 j _ _ (List.getElem?_eq_getElem _) (List.getElem?_eq_getElem _)
                    · have e2 : (env0 F args).getD j .un = .un := by
                        simp only [env0, List.getD_eq_getElem?_getD, List.getElem?_append]
                        rw [if_neg (by omega), List.getElem?_replicate]
                        split <;> rfl
                      rw [e2]; exact .un _
                  refine code_sound ih k F.body c _ μ H (env0 F args) _ w e s h7 hI hH hx ?_
                  intro ex a' w' ν he hI' hH' hxt
                  have fin : finish F (some (.norm, s)) = some out → a'.defers = [] ∧ ∃ v, (results fn a'.tmps).run P w' = .ok v w' ∧ OutR B μ H w out (.returned v) w' := by
                    intro h
                    simp only [finish] at h
                    split at h
                    · rename_i vs hvs
                      cases h
                      obtain ⟨us', hu1, hu2⟩ := res_sound (P := P) hI' hH' fn.results.toList F.res vs h6 hvs
                      refine ⟨hI'.defers, (if h : us'.toArray.size = 1 then us'.toArray[0] else .tuple us'.toArray), ?_, ?_⟩
                      · rw [results_eq, Sem.run_bind, Array.mapM_eq_mapM_toList, Sem.run_map, hu1]
                        simp only [Result.andThen_ok, Sem.run_pure]
                      · refine ⟨_, ν, rfl, ?_, hH', hxt⟩
                        match vs, us', hu2 with
                        | [v], [u], hu2 => simpa [pack] using hu2.head
                        | [], [], hu2 => simpa [pack] using VR.tup' (μ := ν) (ys := #[]) (by simpa using hu2)
                        | [v], [], hu2 => have := hu2.1; simp at this
                        | [], [u], hu2 => have := hu2.1; simp at this
                        | [v], u :: u' :: us', hu2 => have := hu2.1; simp at this
                        | v :: v' :: vs, [u], hu2 => have := hu2.1; simp at this
                        | [], u :: u' :: us', hu2 => have := hu2.1; simp at this
                        | v :: v' :: vs, [], hu2 => have := hu2.1; simp at this
                        | v :: v' :: vs, u :: u' :: us', hu2 => exact .tup' (by simpa using hu2)
                    · cases h
                  cases e with
                  | norm =>
                    cases ex <;> simp only [exR] at he
                    exact fin h
                  | ret =>
                    cases ex <;> simp only [exR] at he
                    exact fin h
                  | exit id => cases h
                  | pan v =>
                    cases ex <;> simp only [exR] at he
                    obtain ⟨u, rfl, hu⟩ := he
                    simp only [finish] at h; cases h
                    exact ⟨hI'.defers, u, ν, rfl, hu, hH', hxt⟩
        · cases h
end Go.Ai

/-- Where nobody asks, what is drawn is not counted. -/
instance (priority := low) Go.Ai.drModeNone : Go.Ai.DrMode := ⟨false⟩
/- Functions of the program (package carcanetlaw22) as code of the abstract machine: written by a program of this session out of the elaborated operations. -/
namespace Go.Ai.G
set_option maxRecDepth 100000
set_option linter.unusedVariables false
/-! 84: carcanet/carcanetlaw22.shown: 0: 1:l 2:c 3:e 4:f 5:o 6:ok 7:no 8:s 9:g 10:h 11: -/
def r84_0 (φ : Nat → Nat) : List AOper := [
  ⟨0, .N .mv, [.c (.bool false)], none, 0⟩]
def r84_1 (φ : Nat → Nat) : List AOper := [
  ⟨0, .N (.bsl [.int .i64 0] 3 1 [(0, 1), (1, 1), (2, 1)]), [.c (.int .i64 0), .c (.int .i64 1), .c (.int .i64 2)], none, 0⟩,
  ⟨1, .N (.build [.int .i64 0, .int .i64 0, .nils] [(0, 1), (1, 1), (2, 1)]), [.c (.int .i64 0), .c (.int .i64 2), .l 0], none, 0⟩,
  ⟨2, .N (.mki (φ 89)), [.l 0], none, 0⟩,
  ⟨3, .calli false (φ 99), [.l 0], none, 0⟩,
  ⟨4, .N .mv, [.l 0], none, 0⟩]
def r84_2 (φ : Nat → Nat) : List AOper := [
  ⟨0, .N (.bsl [.int .i64 0] 5 1 [(0, 1), (1, 1), (2, 1), (3, 1), (4, 1)]), [.c (.int .i64 3), .c (.int .i64 3), .c (.int .i64 1), .c (.int .i64 2), .c (.int .i64 3)], none, 0⟩,
  ⟨1, .calli false (φ 85), [.l 0], none, 0⟩,
  ⟨2, .N .mv, [.l 0], none, 0⟩,
  ⟨3, .N (.ext 0), [.l 0], none, 0⟩,
  ⟨4, .N (.ext 1), [.l 1], none, 0⟩,
  ⟨5, .N .mv, [.l 1], none, 0⟩,
  ⟨6, .N .mv, [.l 1], none, 0⟩]
def r84_3 (φ : Nat → Nat) : List AOper := [
  ⟨0, .N (.bsl [.int .i64 0] 5 1 [(0, 1), (1, 1), (2, 1), (3, 1), (4, 1)]), [.c (.int .i64 3), .c (.int .i64 4), .c (.int .i64 1), .c (.int .i64 2), .c (.int .i64 3)], none, 0⟩,
  ⟨1, .calli false (φ 85), [.l 0], none, 0⟩,
  ⟨2, .N .mv, [.l 0], none, 0⟩,
  ⟨3, .N (.ext 0), [.l 0], none, 0⟩,
  ⟨4, .N (.ext 1), [.l 1], none, 0⟩,
  ⟨5, .N .mv, [.l 1], none, 0⟩,
  ⟨6, .N .mv, [.l 1], none, 0⟩]
def r84_4 (φ : Nat → Nat) : List AOper := [
  ⟨0, .N (.bsl [.int .i64 0] 1 1 [(0, 1)]), [.c (.int .i64 7)], none, 0⟩,
  ⟨1, .N (.build [.int .i64 0, .int .i64 0, .nils] [(2, 1)]), [.l 0], none, 0⟩,
  ⟨2, .N (.mki (φ 89)), [.l 0], none, 0⟩,
  ⟨3, .calli false (φ 103), [.l 0], none, 0⟩,
  ⟨4, .N .mv, [.l 0], none, 0⟩,
  ⟨5, .N (.ext 0), [.l 0], none, 0⟩,
  ⟨6, .N (.ext 1), [.l 1], none, 0⟩,
  ⟨7, .N .mv, [.l 1], none, 0⟩,
  ⟨8, .N .mv, [.l 1], none, 0⟩]
def r84_5 (φ : Nat → Nat) : List AOper := [
  ⟨0, .N .mv, [.n 2], none, 0⟩,
  ⟨1, .calli false (φ 103), [.l 0], none, 0⟩,
  ⟨2, .N .mv, [.l 0], none, 0⟩,
  ⟨3, .N (.ext 0), [.l 0], none, 0⟩,
  ⟨4, .N (.ext 1), [.l 1], none, 0⟩,
  ⟨5, .N .mv, [.l 1], none, 0⟩,
  ⟨6, .N .mv, [.l 1], none, 0⟩]
def r84_6 (φ : Nat → Nat) : List AOper := [
  ⟨0, .N (.build [.int .i64 0, .nils, .nils] [(0, 1)]), [.c (.int .i64 2)], none, 0⟩,
  ⟨1, .N (.build [.int .i64 0, .nils, .nils] [(0, 3)]), [.l 0], none, 0⟩,
  ⟨2, .N (.mki (φ 87)), [.l 0], none, 0⟩,
  ⟨3, .calli false (φ 105), [.l 0], none, 0⟩,
  ⟨4, .N .mv, [.l 0], none, 0⟩,
  ⟨5, .N (.ext 0), [.l 0], none, 0⟩,
  ⟨6, .N (.ext 1), [.l 1], none, 0⟩,
  ⟨7, .N (.alloc [.int .i64 0, .nils, .nils]), [], none, 0⟩,
  ⟨8, .X (.store 3), [.l 0, .l 2], none, 0⟩,
  ⟨9, .N .mv, [.l 2], none, 0⟩]
def r84_7 (φ : Nat → Nat) : List AOper := [
  ⟨0, .N .mv, [.n 2], none, 0⟩,
  ⟨1, .calli false (φ 105), [.l 0], none, 0⟩,
  ⟨2, .N .mv, [.l 0], none, 0⟩,
  ⟨3, .N (.ext 0), [.l 0], none, 0⟩,
  ⟨4, .N (.ext 1), [.l 1], none, 0⟩,
  ⟨5, .N (.alloc [.int .i64 0, .nils, .nils]), [], none, 0⟩,
  ⟨6, .X (.store 3), [.l 0, .l 2], none, 0⟩,
  ⟨7, .N .mv, [.l 2], none, 0⟩]
def r84_8 (φ : Nat → Nat) : List AOper := [
  ⟨0, .N .mv, [.n 3], none, 0⟩,
  ⟨1, .N (.bin .neq), [.l 0, .c (.int .i64 0)], none, 0⟩,
  ⟨2, .N .mv, [.l 0], none, 0⟩,
  ⟨3, .N .mv, [.n 2], some (.l 0, false), 0⟩,
  ⟨4, .N (.eqN 4 false), [.l 0, .c (.nili)], some (.l 1, false), 0⟩,
  ⟨5, .N .pick, [.l 2, .c (.bool true), .l 0], none, 0⟩]
def r84_9 (φ : Nat → Nat) : List AOper := [
  ⟨0, .N .mv, [.c (.bool false)], none, 0⟩]
def r84_10 (φ : Nat → Nat) : List AOper := [
  ⟨0, .N .mv, [.n 1], none, 0⟩,
  ⟨1, .N (.bsl [.int .i64 0] 7 1 [(0, 1), (1, 1), (2, 1), (3, 1), (4, 1), (5, 1), (6, 1)]), [.c (.int .i64 5), .c (.int .i64 0), .c (.int .i64 2), .c (.int .i64 3), .c (.int .i64 0), .c (.int .i64 1), .c (.int .i64 2)], none, 0⟩,
  ⟨2, .calli true (φ 11), [.l 1, .l 0], none, 0⟩,
  ⟨3, .N .mv, [.l 0], none, 0⟩,
  ⟨4, .N .mv, [.n 2], some (.l 0, true), 0⟩,
  ⟨5, .inv [(φ 87, φ 88), (φ 89, φ 90), (φ 91, φ 92), (φ 93, φ 94), (φ 95, φ 96), (φ 97, φ 98)], [.l 0], some (.l 1, true), 0⟩,
  ⟨6, .N (.bin .eql), [.l 0, .c (.int .i64 3)], some (.l 2, true), 0⟩,
  ⟨7, .N .pick, [.l 3, .l 0, .c (.bool false)], none, 0⟩,
  ⟨8, .N .mv, [.l 0], none, 0⟩,
  ⟨9, .N .mv, [.n 4], some (.l 0, true), 0⟩,
  ⟨10, .N (.bin .eql), [.l 0, .c (.int .i64 3)], some (.l 1, true), 0⟩,
  ⟨11, .N .pick, [.l 2, .l 0, .c (.bool false)], none, 0⟩,
  ⟨12, .N .mv, [.l 0], none, 0⟩,
  ⟨13, .N .mv, [.n 6], some (.l 0, true), 0⟩,
  ⟨14, .N .pick, [.l 1, .l 0, .c (.bool false)], none, 0⟩,
  ⟨15, .N .mv, [.l 0], none, 0⟩,
  ⟨16, .N .mv, [.n 7], some (.l 0, true), 0⟩,
  ⟨17, .N (.un .not), [.l 0], some (.l 1, true), 0⟩,
  ⟨18, .N .pick, [.l 2, .l 0, .c (.bool false)], none, 0⟩,
  ⟨19, .N .mv, [.l 0], none, 0⟩,
  ⟨20, .N .mv, [.n 5], some (.l 0, true), 0⟩,
  ⟨21, .N .lenS, [.l 0], some (.l 1, true), 0⟩,
  ⟨22, .N (.bin .eql), [.l 0, .c (.int .i64 1)], some (.l 2, true), 0⟩,
  ⟨23, .N .pick, [.l 3, .l 0, .c (.bool false)], none, 0⟩,
  ⟨24, .N .mv, [.l 0], none, 0⟩,
  ⟨25, .N .mv, [.n 5], some (.l 0, true), 0⟩,
  ⟨26, .N (.idx 1), [.l 0, .c (.int .i64 0)], some (.l 1, true), 0⟩,
  ⟨27, .N .load1, [.l 0], some (.l 2, true), 0⟩,
  ⟨28, .N (.bin .eql), [.l 0, .c (.int .i64 7)], some (.l 3, true), 0⟩,
  ⟨29, .N .pick, [.l 4, .l 0, .c (.bool false)], none, 0⟩,
  ⟨30, .N .mv, [.l 0], none, 0⟩,
  ⟨31, .N (.fadd 0), [.n 8], some (.l 0, true), 0⟩,
  ⟨32, .N .load1, [.l 0], some (.l 1, true), 0⟩,
  ⟨33, .N (.bin .eql), [.l 0, .c (.int .i64 2)], some (.l 2, true), 0⟩,
  ⟨34, .N .pick, [.l 3, .l 0, .c (.bool false)], none, 0⟩,
  ⟨35, .N .mv, [.l 0], none, 0⟩,
  ⟨36, .N .mv, [.n 9], some (.l 0, true), 0⟩,
  ⟨37, .N (.bin .eql), [.l 0, .c (.int .i64 0)], some (.l 1, true), 0⟩,
  ⟨38, .N .pick, [.l 2, .l 0, .c (.bool false)], none, 0⟩,
  ⟨39, .N .mv, [.l 0], none, 0⟩,
  ⟨40, .N .mv, [.n 10], some (.l 0, true), 0⟩,
  ⟨41, .N (.bin .eql), [.l 0, .c (.int .i64 7)], some (.l 1, true), 0⟩,
  ⟨42, .N .pick, [.l 2, .l 0, .c (.bool false)], none, 0⟩,
  ⟨43, .N .mv, [.l 0], none, 0⟩]
def b84 (φ : Nat → Nat) : ACode := .seq (.reg false (r84_0 φ) [(0, 0)]) (.seq (.reg false (r84_1 φ) [(1, 0)]) (.seq (.reg false (r84_2 φ) [(2, 1), (3, 0)]) (.seq (.reg false (r84_3 φ) [(4, 0)]) (.seq (.reg false (r84_4 φ) [(5, 1), (6, 0)]) (.seq (.reg false (r84_5 φ) [(7, 0)]) (.seq (.reg false (r84_6 φ) [(8, 2), (9, 0)]) (.seq (.reg false (r84_7 φ) [(10, 0)]) (.seq (.seq (.reg false (r84_8 φ) [(11, 0)]) (.cond (.n 11) (.seq (.reg false (r84_9 φ) [(0, 0)]) (.ret)) (.skip))) (.seq (.reg false (r84_10 φ) [(0, 0)]) (.ret))))))))))
def f84 (φ : Nat → Nat) : AFn := ⟨0, [0, 1, 2, 3, 5, 6, 7, 9, 10, 11, 13, 57], 101, b84 φ, [.t 0]⟩
/-! 100: carcanet/carcanetlaw22.CertReads: 0:l 1: 2:head 3:c 4:e 5: 6: -/
def r100_0 (φ : Nat → Nat) : List AOper := [
  ⟨0, .N .mv, [.c (.bool false)], none, 0⟩]
def r100_1 (φ : Nat → Nat) : List AOper := [
  ⟨0, .calli true (φ 84), [], none, 0⟩,
  ⟨1, .N .mv, [.l 0], none, 0⟩]
def r100_2 (φ : Nat → Nat) : List AOper := [
  ⟨0, .N (.bsl [.int .i64 0] 0 1 []), [], none, 0⟩,
  ⟨1, .N .mv, [.n 0], none, 0⟩,
  ⟨2, .N .mv, [.n 0], none, 0⟩,
  ⟨3, .N .lenS, [.l 0], none, 0⟩,
  ⟨4, .N .min, [.l 0, .c (.int .i64 200)], none, 0⟩,
  ⟨5, .N (.slc 1 false true false), [.l 3, .l 0], none, 0⟩,
  ⟨6, .X (.app 1 8), [.l 5, .l 0], none, 0⟩,
  ⟨7, .N .mv, [.l 0], none, 0⟩]
def r100_3 (φ : Nat → Nat) : List AOper := [
  ⟨0, .N .mv, [.n 0], none, 0⟩,
  ⟨1, .calli false (φ 85), [.l 0], none, 0⟩,
  ⟨2, .N .mv, [.l 0], none, 0⟩,
  ⟨3, .N (.ext 0), [.l 0], none, 0⟩,
  ⟨4, .N (.ext 1), [.l 1], none, 0⟩,
  ⟨5, .N .mv, [.l 1], none, 0⟩,
  ⟨6, .N .mv, [.l 1], none, 0⟩]
def r100_4 (φ : Nat → Nat) : List AOper := [
  ⟨0, .N .mv, [.n 0], none, 0⟩,
  ⟨1, .calli true (φ 86), [.l 0], none, 0⟩,
  ⟨2, .N (.un .not), [.l 0], none, 0⟩]
def r100_5 (φ : Nat → Nat) : List AOper := [
  ⟨0, .N .mv, [.n 2], none, 0⟩,
  ⟨1, .N .mv, [.l 0], none, 0⟩,
  ⟨2, .N .mv, [.n 4], some (.l 0, true), 0⟩,
  ⟨3, .N (.bin .eql), [.l 0, .c (.int .i64 3)], some (.l 1, true), 0⟩,
  ⟨4, .N .pick, [.l 2, .l 0, .c (.bool false)], none, 0⟩,
  ⟨5, .N .mv, [.l 0], none, 0⟩,
  ⟨6, .N .mv, [.n 3], some (.l 0, true), 0⟩,
  ⟨7, .N (.eqN 4 false), [.l 0, .c (.nili)], some (.l 1, true), 0⟩,
  ⟨8, .N .pick, [.l 2, .l 0, .c (.bool false)], none, 0⟩,
  ⟨9, .N .mv, [.l 0], none, 0⟩]
def r100_6 (φ : Nat → Nat) : List AOper := [
  ⟨0, .N .mv, [.n 4], none, 0⟩,
  ⟨1, .N (.bin .neq), [.l 0, .c (.int .i64 0)], none, 0⟩,
  ⟨2, .N .mv, [.l 0], none, 0⟩,
  ⟨3, .N .mv, [.n 3], some (.l 0, false), 0⟩,
  ⟨4, .N (.eqN 4 false), [.l 0, .c (.nili)], some (.l 1, false), 0⟩,
  ⟨5, .N .pick, [.l 2, .c (.bool true), .l 0], none, 0⟩]
def r100_7 (φ : Nat → Nat) : List AOper := [
  ⟨0, .N .mv, [.c (.bool false)], none, 0⟩]
def r100_8 (φ : Nat → Nat) : List AOper := [
  ⟨0, .N .mv, [.n 2], none, 0⟩,
  ⟨1, .N .mv, [.l 0], none, 1⟩,
  ⟨2, .N .mv, [.n 3], some (.l 0, true), 3⟩,
  ⟨4, .N .mv, [.n 0], some (.l 1, true), 3⟩,
  ⟨5, .N (.idx 1), [.l 0, .c (.int .i64 0)], some (.l 2, true), 11⟩,
  ⟨6, .N .load1, [.l 0], some (.l 3, true), 27⟩,
  ⟨3, .inv [(φ 87, φ 88), (φ 89, φ 90), (φ 91, φ 92), (φ 93, φ 94), (φ 95, φ 96), (φ 97, φ 98)], [.l 3], some (.l 4, true), 7⟩,
  ⟨7, .N (.bin .eql), [.l 0, .l 1], some (.l 5, true), 127⟩,
  ⟨8, .N .pick, [.l 6, .l 0, .c (.bool false)], none, 255⟩,
  ⟨9, .N .mv, [.l 0], none, 511⟩,
  ⟨10, .N .mv, [.n 3], some (.l 0, true), 1023⟩,
  ⟨12, .N .mv, [.n 0], some (.l 1, true), 1023⟩,
  ⟨11, .calli false (φ 99), [.l 1], some (.l 2, true), 2047⟩,
  ⟨13, .calli true (φ 11), [.l 0, .l 1], some (.l 3, true), 8191⟩,
  ⟨14, .N .pick, [.l 4, .l 0, .c (.bool false)], none, 16383⟩,
  ⟨15, .N .mv, [.l 0], none, 32767⟩]
def b100 (φ : Nat → Nat) : ACode := .seq (.reg false (r100_0 φ) [(1, 0)]) (.seq (.reg false (r100_1 φ) [(2, 0)]) (.seq (.reg false (r100_2 φ) [(0, 0)]) (.seq (.reg false (r100_3 φ) [(3, 1), (4, 0)]) (.seq (.seq (.reg false (r100_4 φ) [(5, 0)]) (.cond (.n 5) (.seq (.reg false (r100_5 φ) [(1, 0)]) (.ret)) (.skip))) (.seq (.seq (.reg false (r100_6 φ) [(6, 0)]) (.cond (.n 6) (.seq (.reg false (r100_7 φ) [(1, 0)]) (.ret)) (.skip))) (.seq (.reg true (r100_8 φ) [(1, 0)]) (.ret)))))))
def f100 (φ : Nat → Nat) : AFn := ⟨1, [0, 2, 3, 4, 5, 21, 36], 52, b100 φ, [.t 1]⟩
/-! 104: carcanet/carcanetlaw22.CertPages: 0:a 1:b 2:l 3: 4:head 5:all 6:i 7:one 8:pages 9:ring 10:gap 11:c 12:e 13:d 14:f 15:g 16:h 17:x 18:ok 19:y 20:too 21:no 22: 23: 24: -/
def r104_0 (φ : Nat → Nat) : List AOper := [
  ⟨0, .N .mv, [.c (.bool false)], none, 0⟩]
def r104_1 (φ : Nat → Nat) : List AOper := [
  ⟨0, .calli true (φ 84), [], none, 0⟩,
  ⟨1, .N .mv, [.l 0], none, 0⟩]
def r104_2 (φ : Nat → Nat) : List AOper := [
  ⟨0, .N .mv, [.c (.nils)], none, 0⟩]
def r104_3 (φ : Nat → Nat) : List AOper := [
  ⟨0, .N .mv, [.c (.int .i64 0)], none, 0⟩]
def r104_4 (φ : Nat → Nat) : List AOper := [
  ⟨0, .N .mv, [.n 6], none, 0⟩,
  ⟨1, .N .mv, [.n 2], none, 0⟩,
  ⟨2, .N .lenS, [.l 0], none, 0⟩,
  ⟨3, .N (.bin .lss), [.l 2, .l 0], none, 0⟩,
  ⟨4, .N .mv, [.l 0], none, 0⟩,
  ⟨5, .N .mv, [.n 6], some (.l 0, true), 0⟩,
  ⟨6, .N (.bin .lss), [.l 0, .c (.int .i64 11)], some (.l 1, true), 0⟩,
  ⟨7, .N .pick, [.l 2, .l 0, .c (.bool false)], none, 0⟩]
def r104_5 (φ : Nat → Nat) : List AOper := [
  ⟨0, .N .mv, [.n 5], none, 0⟩,
  ⟨1, .N (.bsl [.int .i64 0] 0 1 []), [], none, 0⟩,
  ⟨2, .N .mv, [.n 2], none, 0⟩,
  ⟨3, .N .mv, [.n 6], none, 0⟩,
  ⟨4, .N (.idx 1), [.l 1, .l 0], none, 12⟩,
  ⟨5, .N .load1, [.l 0], none, 28⟩,
  ⟨6, .N .mv, [.n 2], none, 0⟩,
  ⟨7, .N .mv, [.n 6], none, 0⟩,
  ⟨8, .N (.idx 1), [.l 1, .l 0], none, 192⟩,
  ⟨9, .N .load1, [.l 0], none, 448⟩,
  ⟨10, .N .lenS, [.l 0], none, 960⟩,
  ⟨11, .N .min, [.l 0, .c (.int .i64 30)], none, 1984⟩,
  ⟨12, .N (.slc 1 false true false), [.l 6, .l 0], none, 4092⟩,
  ⟨13, .X (.app 1 8), [.l 11, .l 0], none, 8190⟩,
  ⟨14, .N (.bsl [.nils] 1 1 [(0, 1)]), [.l 0], none, 16382⟩,
  ⟨15, .X (.app 1 24), [.l 14, .l 0], none, 32767⟩,
  ⟨16, .N .mv, [.l 0], none, 65535⟩]
def r104_6 (φ : Nat → Nat) : List AOper := [
  ⟨0, .N .mv, [.n 6], none, 0⟩,
  ⟨1, .N (.bin .add), [.l 0, .c (.int .i64 1)], none, 0⟩,
  ⟨2, .N .mv, [.l 0], none, 0⟩]
def l104_7 (φ : Nat → Nat) : ACode := .seq (.seq (.reg false (r104_4 φ) [(22, 0)]) (.cond (.n 22) (.skip) (.exit 0))) (.seq (.block 1 (.reg true (r104_5 φ) [(5, 0)])) (.reg false (r104_6 φ) [(6, 0)]))
def r104_8 (φ : Nat → Nat) : List AOper := [
  ⟨0, .N .mv, [.c (.nils)], none, 0⟩]
def r104_9 (φ : Nat → Nat) : List AOper := [
  ⟨0, .N .mv, [.n 5], none, 0⟩,
  ⟨1, .N .lenS, [.l 0], none, 0⟩,
  ⟨2, .N (.bin .gtr), [.l 0, .c (.int .i64 0)], none, 0⟩]
def r104_10 (φ : Nat → Nat) : List AOper := [
  ⟨0, .N .mv, [.n 5], none, 0⟩,
  ⟨1, .N (.idx 1), [.l 0, .c (.int .i64 0)], none, 0⟩,
  ⟨2, .N .load1, [.l 0], none, 0⟩,
  ⟨3, .N .mv, [.l 0], none, 0⟩]
def r104_11 (φ : Nat → Nat) : List AOper := [
  ⟨0, .N .mv, [.n 5], none, 0⟩,
  ⟨1, .N (.slc 1 true false false), [.l 0, .c (.int .i64 1)], none, 0⟩,
  ⟨2, .N .mv, [.l 0], none, 0⟩]
def r104_12 (φ : Nat → Nat) : List AOper := [
  ⟨0, .N .mv, [.n 7], none, 0⟩,
  ⟨1, .N .mv, [.n 5], none, 0⟩,
  ⟨2, .N (.build [.nils, .nils] [(0, 1), (1, 1)]), [.l 1, .l 0], none, 0⟩,
  ⟨3, .N (.mki (φ 93)), [.l 0], none, 0⟩,
  ⟨4, .calli false (φ 99), [.l 0], none, 0⟩,
  ⟨5, .N .mv, [.l 0], none, 0⟩]
def r104_13 (φ : Nat → Nat) : List AOper := [
  ⟨0, .N .mv, [.n 7], none, 0⟩,
  ⟨1, .N (.build [.nils] [(0, 1)]), [.l 0], none, 0⟩,
  ⟨2, .N (.mki (φ 97)), [.l 0], none, 0⟩,
  ⟨3, .calli false (φ 99), [.l 0], none, 0⟩,
  ⟨4, .N .mv, [.l 0], none, 0⟩]
def r104_14 (φ : Nat → Nat) : List AOper := [
  ⟨0, .N .mv, [.n 0], none, 0⟩,
  ⟨1, .N .mv, [.n 1], none, 0⟩,
  ⟨2, .N .mv, [.n 7], none, 0⟩,
  ⟨3, .N (.build [.int .i64 0, .int .i64 0, .nils] [(0, 1), (1, 1), (2, 1)]), [.l 2, .l 1, .l 0], none, 0⟩,
  ⟨4, .N (.mki (φ 89)), [.l 0], none, 0⟩,
  ⟨5, .calli false (φ 99), [.l 0], none, 0⟩,
  ⟨6, .N .mv, [.l 0], none, 0⟩]
def r104_15 (φ : Nat → Nat) : List AOper := [
  ⟨0, .N .mv, [.n 8], none, 0⟩,
  ⟨1, .N (.bsl [.int .i64 0] 1 1 [(0, 1)]), [.c (.int .i64 1)], none, 0⟩,
  ⟨2, .N .mv, [.n 7], none, 0⟩,
  ⟨3, .calli false (φ 101), [.l 0], none, 0⟩,
  ⟨4, .X (.app 1 8), [.l 2, .l 0], none, 0⟩,
  ⟨5, .N .mv, [.n 5], none, 0⟩,
  ⟨6, .calli false (φ 102), [.l 0], none, 0⟩,
  ⟨7, .X (.app 1 8), [.l 2, .l 0], none, 0⟩,
  ⟨8, .calli true (φ 11), [.l 7, .l 0], none, 0⟩,
  ⟨9, .N (.un .not), [.l 0], none, 0⟩,
  ⟨10, .N .mv, [.l 0], none, 0⟩,
  ⟨11, .N .mv, [.n 9], some (.l 0, false), 0⟩,
  ⟨12, .N (.bsl [.int .i64 0] 1 1 [(0, 1)]), [.c (.int .i64 3)], some (.l 1, false), 0⟩,
  ⟨13, .N .mv, [.n 7], some (.l 2, false), 0⟩,
  ⟨14, .calli false (φ 101), [.l 0], some (.l 3, false), 0⟩,
  ⟨15, .X (.app 1 8), [.l 2, .l 0], some (.l 4, false), 0⟩,
  ⟨16, .calli true (φ 11), [.l 4, .l 0], some (.l 5, false), 0⟩,
  ⟨17, .N (.un .not), [.l 0], some (.l 6, false), 0⟩,
  ⟨18, .N .pick, [.l 7, .c (.bool true), .l 0], none, 0⟩,
  ⟨19, .N .mv, [.l 0], none, 0⟩,
  ⟨20, .N .mv, [.n 10], some (.l 0, false), 0⟩,
  ⟨21, .N .mv, [.n 0], some (.l 1, false), 0⟩,
  ⟨22, .N .mv, [.n 1], some (.l 2, false), 0⟩,
  ⟨23, .N (.bsl [.int .i64 0] 3 1 [(0, 1), (1, 1), (2, 1)]), [.c (.int .i64 5), .l 1, .l 0], some (.l 3, false), 0⟩,
  ⟨24, .N .mv, [.n 7], some (.l 4, false), 0⟩,
  ⟨25, .calli false (φ 101), [.l 0], some (.l 5, false), 0⟩,
  ⟨26, .X (.app 1 8), [.l 2, .l 0], some (.l 6, false), 0⟩,
  ⟨27, .calli true (φ 11), [.l 6, .l 0], some (.l 7, false), 0⟩,
  ⟨28, .N (.un .not), [.l 0], some (.l 8, false), 0⟩,
  ⟨29, .N .pick, [.l 9, .c (.bool true), .l 0], none, 0⟩]
def r104_16 (φ : Nat → Nat) : List AOper := [
  ⟨0, .N .mv, [.c (.bool false)], none, 0⟩]
def r104_17 (φ : Nat → Nat) : List AOper := [
  ⟨0, .N .mv, [.n 8], none, 0⟩,
  ⟨1, .calli false (φ 85), [.l 0], none, 0⟩,
  ⟨2, .N .mv, [.l 0], none, 0⟩,
  ⟨3, .N (.ext 0), [.l 0], none, 0⟩,
  ⟨4, .N (.ext 1), [.l 1], none, 0⟩,
  ⟨5, .N .mv, [.l 1], none, 0⟩,
  ⟨6, .N .mv, [.l 1], none, 0⟩]
def r104_18 (φ : Nat → Nat) : List AOper := [
  ⟨0, .N .mv, [.n 9], none, 0⟩,
  ⟨1, .calli false (φ 85), [.l 0], none, 0⟩,
  ⟨2, .N .mv, [.l 0], none, 0⟩,
  ⟨3, .N (.ext 0), [.l 0], none, 0⟩,
  ⟨4, .N (.ext 1), [.l 1], none, 0⟩,
  ⟨5, .N .mv, [.l 1], none, 0⟩,
  ⟨6, .N .mv, [.l 1], none, 0⟩]
def r104_19 (φ : Nat → Nat) : List AOper := [
  ⟨0, .N .mv, [.n 10], none, 0⟩,
  ⟨1, .calli false (φ 85), [.l 0], none, 0⟩,
  ⟨2, .N .mv, [.l 0], none, 0⟩,
  ⟨3, .N (.ext 0), [.l 0], none, 0⟩,
  ⟨4, .N (.ext 1), [.l 1], none, 0⟩,
  ⟨5, .N .mv, [.l 1], none, 0⟩,
  ⟨6, .N .mv, [.l 1], none, 0⟩]
def r104_20 (φ : Nat → Nat) : List AOper := [
  ⟨0, .N .mv, [.n 11], none, 0⟩,
  ⟨1, .calli false (φ 103), [.l 0], none, 0⟩,
  ⟨2, .N .mv, [.l 0], none, 0⟩,
  ⟨3, .N (.ext 0), [.l 0], none, 0⟩,
  ⟨4, .N (.ext 1), [.l 1], none, 0⟩,
  ⟨5, .N .mv, [.l 1], none, 0⟩,
  ⟨6, .N .mv, [.l 1], none, 0⟩]
def r104_21 (φ : Nat → Nat) : List AOper := [
  ⟨0, .N .mv, [.n 15], none, 0⟩,
  ⟨1, .calli false (φ 103), [.l 0], none, 0⟩,
  ⟨2, .N .mv, [.l 0], none, 0⟩,
  ⟨3, .N (.ext 0), [.l 0], none, 0⟩,
  ⟨4, .N (.ext 1), [.l 1], none, 0⟩,
  ⟨5, .N .mv, [.l 1], none, 0⟩,
  ⟨6, .N .mv, [.l 1], none, 0⟩]
def r104_22 (φ : Nat → Nat) : List AOper := [
  ⟨0, .N .mv, [.n 13], none, 0⟩,
  ⟨1, .calli false (φ 103), [.l 0], none, 0⟩,
  ⟨2, .N .mv, [.l 0], none, 0⟩,
  ⟨3, .N (.ext 0), [.l 0], none, 0⟩,
  ⟨4, .N (.ext 1), [.l 1], none, 0⟩,
  ⟨5, .N .mv, [.l 1], none, 0⟩,
  ⟨6, .N .mv, [.l 1], none, 0⟩]
def r104_23 (φ : Nat → Nat) : List AOper := [
  ⟨0, .N .mv, [.n 4], none, 0⟩,
  ⟨1, .N .mv, [.l 0], none, 0⟩,
  ⟨2, .N .mv, [.n 12], some (.l 0, true), 0⟩,
  ⟨3, .N (.bin .eql), [.l 0, .c (.int .i64 0)], some (.l 1, true), 0⟩,
  ⟨4, .N .pick, [.l 2, .l 0, .c (.bool false)], none, 0⟩,
  ⟨5, .N .mv, [.l 0], none, 0⟩,
  ⟨6, .N .mv, [.n 14], some (.l 0, true), 0⟩,
  ⟨7, .N (.bin .eql), [.l 0, .c (.int .i64 0)], some (.l 1, true), 0⟩,
  ⟨8, .N .pick, [.l 2, .l 0, .c (.bool false)], none, 0⟩,
  ⟨9, .N .mv, [.l 0], none, 0⟩,
  ⟨10, .N .mv, [.n 16], some (.l 0, true), 0⟩,
  ⟨11, .N (.bin .eql), [.l 0, .c (.int .i64 0)], some (.l 1, true), 0⟩,
  ⟨12, .N .pick, [.l 2, .l 0, .c (.bool false)], none, 0⟩,
  ⟨13, .N .mv, [.l 0], none, 0⟩,
  ⟨14, .N .mv, [.n 18], some (.l 0, true), 0⟩,
  ⟨15, .N .pick, [.l 1, .l 0, .c (.bool false)], none, 0⟩,
  ⟨16, .N .mv, [.l 0], none, 0⟩,
  ⟨17, .N .mv, [.n 20], some (.l 0, true), 0⟩,
  ⟨18, .N .pick, [.l 1, .l 0, .c (.bool false)], none, 0⟩,
  ⟨19, .N .mv, [.l 0], none, 0⟩,
  ⟨20, .N .mv, [.n 21], some (.l 0, true), 0⟩,
  ⟨21, .N (.un .not), [.l 0], some (.l 1, true), 0⟩,
  ⟨22, .N .pick, [.l 2, .l 0, .c (.bool false)], none, 0⟩,
  ⟨23, .N .mv, [.l 0], none, 0⟩,
  ⟨24, .N .mv, [.n 17], some (.l 0, true), 0⟩,
  ⟨25, .N .mv, [.n 7], some (.l 1, true), 0⟩,
  ⟨26, .calli true (φ 11), [.l 1, .l 0], some (.l 2, true), 0⟩,
  ⟨27, .N .pick, [.l 3, .l 0, .c (.bool false)], none, 0⟩,
  ⟨28, .N .mv, [.l 0], none, 0⟩,
  ⟨29, .N .mv, [.n 19], some (.l 0, true), 0⟩,
  ⟨30, .N .mv, [.n 7], some (.l 1, true), 0⟩,
  ⟨31, .calli true (φ 11), [.l 1, .l 0], some (.l 2, true), 0⟩,
  ⟨32, .N .pick, [.l 3, .l 0, .c (.bool false)], none, 0⟩,
  ⟨33, .N .mv, [.l 0], none, 0⟩]
def b104 (φ : Nat → Nat) : ACode := .seq (.reg false (r104_0 φ) [(3, 0)]) (.seq (.reg false (r104_1 φ) [(4, 0)]) (.seq (.reg false (r104_2 φ) [(5, 0)]) (.seq (.seq (.reg false (r104_3 φ) [(6, 0)]) (.block 0 (.loop (l104_7 φ)))) (.seq (.reg false (r104_8 φ) [(7, 0)]) (.seq (.seq (.reg false (r104_9 φ) [(23, 0)]) (.cond (.n 23) (.seq (.reg false (r104_10 φ) [(7, 0)]) (.reg false (r104_11 φ) [(5, 0)])) (.skip))) (.seq (.reg false (r104_12 φ) [(8, 0)]) (.seq (.reg false (r104_13 φ) [(9, 0)]) (.seq (.reg false (r104_14 φ) [(10, 0)]) (.seq (.seq (.reg false (r104_15 φ) [(24, 0)]) (.cond (.n 24) (.seq (.reg false (r104_16 φ) [(3, 0)]) (.ret)) (.skip))) (.seq (.reg false (r104_17 φ) [(11, 1), (12, 0)]) (.seq (.reg false (r104_18 φ) [(13, 1), (14, 0)]) (.seq (.reg false (r104_19 φ) [(15, 1), (16, 0)]) (.seq (.reg false (r104_20 φ) [(17, 1), (18, 0)]) (.seq (.reg false (r104_21 φ) [(19, 1), (20, 0)]) (.seq (.reg false (r104_22 φ) [(21, 0)]) (.seq (.reg false (r104_23 φ) [(3, 0)]) (.ret)))))))))))))))))
def f104 (φ : Nat → Nat) : AFn := ⟨3, [0, 1, 2, 6, 7, 8, 9, 10, 11, 12, 13, 14, 15, 16, 17, 18, 19, 20, 21, 22, 23, 25, 34, 55, 105], 169, b104 φ, [.t 3]⟩
/-! 107: carcanet/carcanetlaw22.CertBar: 0:s 1:s 2: 3:head 4:k 5:i 6:l 7:want 8:c 9:e 10:t 11:f 12: -/
def r107_0 (φ : Nat → Nat) : List AOper := [
  ⟨0, .N .box, [.n 0], none, 0⟩,
  ⟨1, .N .mv, [.c (.bool false)], none, 0⟩]
def r107_1 (φ : Nat → Nat) : List AOper := [
  ⟨0, .calli true (φ 84), [], none, 0⟩,
  ⟨1, .N .mv, [.l 0], none, 0⟩]
def r107_2 (φ : Nat → Nat) : List AOper := [
  ⟨0, .N (.fadd 0), [.n 1], none, 0⟩,
  ⟨1, .N .load1, [.l 0], none, 1⟩,
  ⟨2, .N (.bsl [.int .i64 0] 0 1 []), [], none, 0⟩,
  ⟨3, .N (.fadd 1), [.n 1], none, 0⟩,
  ⟨4, .N .load1, [.l 0], none, 8⟩,
  ⟨5, .N (.fadd 1), [.n 1], none, 0⟩,
  ⟨6, .N .load1, [.l 0], none, 32⟩,
  ⟨7, .N .lenS, [.l 0], none, 96⟩,
  ⟨8, .N .min, [.l 0, .c (.int .i64 6)], none, 224⟩,
  ⟨9, .N (.slc 1 false true false), [.l 4, .l 0], none, 504⟩,
  ⟨12, .N (.alloc [.int .i64 0, .nils, .nils]), [], none, 0⟩,
  ⟨10, .X (.app 1 8), [.l 8, .l 1], none, 1020⟩,
  ⟨11, .N (.build [.int .i64 0, .nils, .nils] [(0, 1), (1, 1)]), [.l 10, .l 0], none, 3071⟩,
  ⟨13, .X (.store 3), [.l 2, .l 0], none, 8191⟩]
def r107_3 (φ : Nat → Nat) : List AOper := [
  ⟨0, .N .mv, [.c (.int .i64 0)], none, 0⟩]
def r107_4 (φ : Nat → Nat) : List AOper := [
  ⟨0, .N .mv, [.n 5], none, 0⟩,
  ⟨1, .N (.fadd 2), [.n 1], none, 0⟩,
  ⟨2, .N .load1, [.l 0], none, 0⟩,
  ⟨3, .N .lenS, [.l 0], none, 0⟩,
  ⟨4, .N (.bin .lss), [.l 3, .l 0], none, 0⟩,
  ⟨5, .N .mv, [.l 0], none, 0⟩,
  ⟨6, .N .mv, [.n 5], some (.l 0, true), 0⟩,
  ⟨7, .N (.bin .lss), [.l 0, .c (.int .i64 8)], some (.l 1, true), 0⟩,
  ⟨8, .N .pick, [.l 2, .l 0, .c (.bool false)], none, 0⟩]
def r107_5 (φ : Nat → Nat) : List AOper := [
  ⟨0, .N (.fadd 2), [.n 4], none, 0⟩,
  ⟨1, .N .load1, [.l 0], none, 1⟩,
  ⟨2, .N (.bsl [.int .i64 0] 0 1 []), [], none, 0⟩,
  ⟨3, .N (.fadd 2), [.n 1], none, 0⟩,
  ⟨4, .N .load1, [.l 0], none, 8⟩,
  ⟨5, .N .mv, [.n 5], none, 0⟩,
  ⟨6, .N (.idx 1), [.l 1, .l 0], none, 56⟩,
  ⟨7, .N .load1, [.l 0], none, 120⟩,
  ⟨8, .N (.fadd 2), [.n 1], none, 0⟩,
  ⟨9, .N .load1, [.l 0], none, 256⟩,
  ⟨10, .N .mv, [.n 5], none, 0⟩,
  ⟨11, .N (.idx 1), [.l 1, .l 0], none, 1792⟩,
  ⟨12, .N .load1, [.l 0], none, 3840⟩,
  ⟨13, .N .lenS, [.l 0], none, 7936⟩,
  ⟨14, .N .min, [.l 0, .c (.int .i64 20)], none, 16128⟩,
  ⟨15, .N (.slc 1 false true false), [.l 7, .l 0], none, 32760⟩,
  ⟨16, .X (.app 1 8), [.l 13, .l 0], none, 65532⟩,
  ⟨17, .N (.bsl [.nils] 1 1 [(0, 1)]), [.l 0], none, 131068⟩,
  ⟨18, .X (.app 1 24), [.l 16, .l 0], none, 262143⟩,
  ⟨19, .N (.fadd 2), [.n 4], none, 524287⟩,
  ⟨20, .X (.store 1), [.l 0, .l 1], none, 1048575⟩]
def r107_6 (φ : Nat → Nat) : List AOper := [
  ⟨0, .N .mv, [.n 5], none, 0⟩,
  ⟨1, .N (.bin .add), [.l 0, .c (.int .i64 1)], none, 0⟩,
  ⟨2, .N .mv, [.l 0], none, 0⟩]
def l107_7 (φ : Nat → Nat) : ACode := .seq (.seq (.reg false (r107_4 φ) [(12, 0)]) (.cond (.n 12) (.skip) (.exit 0))) (.seq (.block 1 (.reg true (r107_5 φ) [])) (.reg false (r107_6 φ) [(5, 0)]))
def r107_8 (φ : Nat → Nat) : List AOper := [
  ⟨0, .N (.loadN 3), [.n 4], none, 0⟩,
  ⟨1, .N (.build [.int .i64 0, .nils, .nils] [(0, 3)]), [.l 0], none, 0⟩,
  ⟨2, .N (.mki (φ 87)), [.l 0], none, 0⟩,
  ⟨3, .calli false (φ 99), [.l 0], none, 0⟩,
  ⟨4, .N .mv, [.l 0], none, 0⟩]
def r107_9 (φ : Nat → Nat) : List AOper := [
  ⟨0, .N (.fadd 0), [.n 4], none, 0⟩,
  ⟨1, .N .load1, [.l 0], none, 1⟩,
  ⟨2, .N (.bsl [.int .i64 0] 2 1 [(0, 1), (1, 1)]), [.c (.int .i64 4), .l 0], none, 3⟩,
  ⟨3, .N (.fadd 1), [.n 4], none, 0⟩,
  ⟨4, .N .load1, [.l 0], none, 8⟩,
  ⟨7, .N (.fadd 2), [.n 4], none, 0⟩,
  ⟨8, .N .load1, [.l 0], none, 32⟩,
  ⟨5, .calli false (φ 101), [.l 2], none, 24⟩,
  ⟨6, .X (.app 1 8), [.l 5, .l 0], none, 159⟩,
  ⟨9, .calli false (φ 102), [.l 2], none, 511⟩,
  ⟨10, .X (.app 1 8), [.l 1, .l 0], none, 1023⟩,
  ⟨11, .N .mv, [.l 0], none, 2047⟩]
def r107_10 (φ : Nat → Nat) : List AOper := [
  ⟨0, .N .mv, [.n 6], none, 0⟩,
  ⟨1, .calli false (φ 85), [.l 0], none, 0⟩,
  ⟨2, .N .mv, [.l 0], none, 0⟩,
  ⟨3, .N (.ext 0), [.l 0], none, 0⟩,
  ⟨4, .N (.ext 1), [.l 1], none, 0⟩,
  ⟨5, .N .mv, [.l 1], none, 0⟩,
  ⟨6, .N .mv, [.l 1], none, 0⟩]
def r107_11 (φ : Nat → Nat) : List AOper := [
  ⟨0, .N .mv, [.n 8], none, 0⟩,
  ⟨1, .calli false (φ 105), [.l 0], none, 0⟩,
  ⟨2, .N .mv, [.l 0], none, 0⟩,
  ⟨3, .N (.ext 0), [.l 0], none, 0⟩,
  ⟨4, .N (.ext 1), [.l 1], none, 0⟩,
  ⟨5, .N (.alloc [.int .i64 0, .nils, .nils]), [], none, 0⟩,
  ⟨6, .X (.store 3), [.l 0, .l 2], none, 0⟩,
  ⟨7, .N .mv, [.l 2], none, 0⟩]
def r107_12 (φ : Nat → Nat) : List AOper := [
  ⟨0, .N .mv, [.n 3], none, 0⟩,
  ⟨1, .N .mv, [.l 0], none, 0⟩,
  ⟨2, .N .mv, [.n 6], some (.l 0, true), 0⟩,
  ⟨3, .N .mv, [.n 7], some (.l 1, true), 0⟩,
  ⟨4, .calli true (φ 11), [.l 1, .l 0], some (.l 2, true), 0⟩,
  ⟨5, .N .pick, [.l 3, .l 0, .c (.bool false)], none, 0⟩,
  ⟨6, .N .mv, [.l 0], none, 0⟩,
  ⟨7, .N .mv, [.n 9], some (.l 0, true), 0⟩,
  ⟨8, .N (.bin .eql), [.l 0, .c (.int .i64 0)], some (.l 1, true), 0⟩,
  ⟨9, .N .pick, [.l 2, .l 0, .c (.bool false)], none, 0⟩,
  ⟨10, .N .mv, [.l 0], none, 0⟩,
  ⟨11, .N .mv, [.n 11], some (.l 0, true), 0⟩,
  ⟨12, .N (.bin .eql), [.l 0, .c (.int .i64 0)], some (.l 1, true), 0⟩,
  ⟨13, .N .pick, [.l 2, .l 0, .c (.bool false)], none, 0⟩,
  ⟨14, .N .mv, [.l 0], none, 0⟩,
  ⟨15, .N (.loadN 3), [.n 10], some (.l 0, true), 0⟩,
  ⟨16, .N (.loadN 3), [.n 4], some (.l 1, true), 0⟩,
  ⟨17, .calli true (φ 106), [.l 1, .l 0], some (.l 2, true), 0⟩,
  ⟨18, .N .pick, [.l 3, .l 0, .c (.bool false)], none, 0⟩,
  ⟨19, .N .mv, [.l 0], none, 0⟩]
def b107 (φ : Nat → Nat) : ACode := .seq (.reg false (r107_0 φ) [(1, 1), (2, 0)]) (.seq (.reg false (r107_1 φ) [(3, 0)]) (.seq (.reg true (r107_2 φ) [(4, 3)]) (.seq (.seq (.reg false (r107_3 φ) [(5, 0)]) (.block 0 (.loop (l107_7 φ)))) (.seq (.reg false (r107_8 φ) [(6, 0)]) (.seq (.reg true (r107_9 φ) [(7, 0)]) (.seq (.reg false (r107_10 φ) [(8, 1), (9, 0)]) (.seq (.reg false (r107_11 φ) [(10, 2), (11, 0)]) (.seq (.reg false (r107_12 φ) [(2, 0)]) (.ret)))))))))
def f107 (φ : Nat → Nat) : AFn := ⟨1, [0, 1, 2, 3, 4, 5, 6, 7, 8, 9, 10, 11, 33], 100, b107 φ, [.t 2]⟩
/-! 110: carcanet/carcanetlaw22.CertNarrow: 0:b 1:t 2:r 3:b 4:r 5: 6:head 7:x 8:i 9:trees 10:i 11:one 12:k 13:y 14:i 15:l 16:m 17:want 18:c 19:e 20:d 21:f 22: 23: 24: 25: 26: -/
def r110_0 (φ : Nat → Nat) : List AOper := [
  ⟨0, .N .box, [.n 0], none, 0⟩,
  ⟨1, .N .box, [.n 2], none, 0⟩,
  ⟨2, .N .mv, [.c (.bool false)], none, 0⟩]
def r110_1 (φ : Nat → Nat) : List AOper := [
  ⟨0, .calli true (φ 84), [], none, 0⟩,
  ⟨1, .N .mv, [.l 0], none, 0⟩]
def r110_2 (φ : Nat → Nat) : List AOper := [
  ⟨0, .N (.bsl [.int .i64 0] 0 1 []), [], none, 0⟩,
  ⟨1, .N (.fadd 1), [.n 3], none, 0⟩,
  ⟨2, .N .load1, [.l 0], none, 0⟩,
  ⟨3, .N (.fadd 1), [.n 3], none, 0⟩,
  ⟨4, .N .load1, [.l 0], none, 0⟩,
  ⟨5, .N .lenS, [.l 0], none, 0⟩,
  ⟨6, .N .min, [.l 0, .c (.int .i64 30)], none, 0⟩,
  ⟨7, .N (.slc 1 false true false), [.l 4, .l 0], none, 0⟩,
  ⟨8, .X (.app 1 8), [.l 7, .l 0], none, 0⟩,
  ⟨9, .N (.build [.nils, .nils] [(1, 1)]), [.l 0], none, 0⟩,
  ⟨10, .N (.build [.nils, .nils, .nils] [(0, 2)]), [.l 0], none, 0⟩,
  ⟨11, .N (.alloc [.nils, .nils, .nils]), [], none, 0⟩,
  ⟨12, .X (.store 3), [.l 0, .l 1], none, 0⟩]
def r110_3 (φ : Nat → Nat) : List AOper := [
  ⟨0, .N .mv, [.c (.int .i64 0)], none, 0⟩]
def r110_4 (φ : Nat → Nat) : List AOper := [
  ⟨0, .N .mv, [.n 8], none, 0⟩,
  ⟨1, .N (.fadd 0), [.n 3], none, 0⟩,
  ⟨2, .N .load1, [.l 0], none, 0⟩,
  ⟨3, .N .lenS, [.l 0], none, 0⟩,
  ⟨4, .N (.bin .lss), [.l 3, .l 0], none, 0⟩,
  ⟨5, .N .mv, [.l 0], none, 0⟩,
  ⟨6, .N .mv, [.n 8], some (.l 0, true), 0⟩,
  ⟨7, .N (.bin .lss), [.l 0, .c (.int .i64 30)], some (.l 1, true), 0⟩,
  ⟨8, .N .pick, [.l 2, .l 0, .c (.bool false)], none, 0⟩]
def r110_5 (φ : Nat → Nat) : List AOper := [
  ⟨0, .N (.fadd 0), [.n 7], none, 0⟩,
  ⟨1, .N (.fadd 0), [.l 0], none, 1⟩,
  ⟨2, .N .load1, [.l 0], none, 3⟩,
  ⟨3, .N (.bsl [.int .i64 0] 0 1 []), [], none, 0⟩,
  ⟨4, .N (.fadd 0), [.n 3], none, 0⟩,
  ⟨5, .N .load1, [.l 0], none, 16⟩,
  ⟨6, .N .mv, [.n 8], none, 0⟩,
  ⟨7, .N (.idx 1), [.l 1, .l 0], none, 112⟩,
  ⟨8, .N .load1, [.l 0], none, 240⟩,
  ⟨9, .N (.fadd 0), [.n 3], none, 0⟩,
  ⟨10, .N .load1, [.l 0], none, 512⟩,
  ⟨11, .N .mv, [.n 8], none, 0⟩,
  ⟨12, .N (.idx 1), [.l 1, .l 0], none, 3584⟩,
  ⟨13, .N .load1, [.l 0], none, 7680⟩,
  ⟨14, .N .lenS, [.l 0], none, 15872⟩,
  ⟨15, .N .min, [.l 0, .c (.int .i64 5)], none, 32256⟩,
  ⟨16, .N (.slc 1 false true false), [.l 7, .l 0], none, 65520⟩,
  ⟨17, .X (.app 1 8), [.l 13, .l 0], none, 131064⟩,
  ⟨18, .N (.bsl [.nils] 1 1 [(0, 1)]), [.l 0], none, 262136⟩,
  ⟨19, .X (.app 1 24), [.l 16, .l 0], none, 524287⟩,
  ⟨20, .N (.fadd 0), [.n 7], none, 1048575⟩,
  ⟨21, .N (.fadd 0), [.l 0], none, 2097151⟩,
  ⟨22, .X (.store 1), [.l 0, .l 2], none, 4194303⟩]
def r110_6 (φ : Nat → Nat) : List AOper := [
  ⟨0, .N .mv, [.n 8], none, 0⟩,
  ⟨1, .N (.bin .add), [.l 0, .c (.int .i64 1)], none, 0⟩,
  ⟨2, .N .mv, [.l 0], none, 0⟩]
def l110_7 (φ : Nat → Nat) : ACode := .seq (.seq (.reg false (r110_4 φ) [(22, 0)]) (.cond (.n 22) (.skip) (.exit 0))) (.seq (.block 1 (.reg true (r110_5 φ) [])) (.reg false (r110_6 φ) [(8, 0)]))
def r110_8 (φ : Nat → Nat) : List AOper := [
  ⟨0, .N .mv, [.c (.nils)], none, 0⟩]
def r110_9 (φ : Nat → Nat) : List AOper := [
  ⟨0, .N .mv, [.c (.int .i64 0)], none, 0⟩]
def r110_10 (φ : Nat → Nat) : List AOper := [
  ⟨0, .N .mv, [.n 10], none, 0⟩,
  ⟨1, .N .mv, [.n 1], none, 0⟩,
  ⟨2, .N .lenS, [.l 0], none, 0⟩,
  ⟨3, .N (.bin .lss), [.l 2, .l 0], none, 0⟩,
  ⟨4, .N .mv, [.l 0], none, 0⟩,
  ⟨5, .N .mv, [.n 10], some (.l 0, true), 0⟩,
  ⟨6, .N (.bin .lss), [.l 0, .c (.int .i64 10)], some (.l 1, true), 0⟩,
  ⟨7, .N .pick, [.l 2, .l 0, .c (.bool false)], none, 0⟩]
def r110_11 (φ : Nat → Nat) : List AOper := [
  ⟨0, .N .mv, [.c (.nils)], none, 0⟩]
def r110_12 (φ : Nat → Nat) : List AOper := [
  ⟨0, .N .mv, [.c (.int .i64 0)], none, 0⟩]
def r110_13 (φ : Nat → Nat) : List AOper := [
  ⟨0, .N .mv, [.n 12], none, 0⟩,
  ⟨1, .N .mv, [.n 1], none, 0⟩,
  ⟨2, .N .mv, [.n 10], none, 0⟩,
  ⟨3, .N (.idx 1), [.l 1, .l 0], none, 0⟩,
  ⟨4, .N .load1, [.l 0], none, 0⟩,
  ⟨5, .N .lenS, [.l 0], none, 0⟩,
  ⟨6, .N (.bin .lss), [.l 5, .l 0], none, 0⟩,
  ⟨7, .N .mv, [.l 0], none, 0⟩,
  ⟨8, .N .mv, [.n 12], some (.l 0, true), 0⟩,
  ⟨9, .N (.bin .lss), [.l 0, .c (.int .i64 30)], some (.l 1, true), 0⟩,
  ⟨10, .N .pick, [.l 2, .l 0, .c (.bool false)], none, 0⟩]
def r110_14 (φ : Nat → Nat) : List AOper := [
  ⟨0, .N .mv, [.n 11], none, 0⟩,
  ⟨1, .N .mv, [.n 1], none, 0⟩,
  ⟨2, .N .mv, [.n 10], none, 0⟩,
  ⟨3, .N (.idx 1), [.l 1, .l 0], none, 0⟩,
  ⟨4, .N .load1, [.l 0], none, 0⟩,
  ⟨5, .N .mv, [.n 12], none, 0⟩,
  ⟨6, .N (.idx 3), [.l 1, .l 0], none, 0⟩,
  ⟨7, .N (.loadN 3), [.l 0], none, 0⟩,
  ⟨8, .N (.bsl [.int .i64 0, .int .i64 0, .int .i64 0] 1 3 [(0, 3)]), [.l 0], none, 0⟩,
  ⟨9, .X (.app 3 24), [.l 8, .l 0], none, 0⟩,
  ⟨10, .N .mv, [.l 0], none, 0⟩]
def r110_15 (φ : Nat → Nat) : List AOper := [
  ⟨0, .N .mv, [.n 12], none, 0⟩,
  ⟨1, .N (.bin .add), [.l 0, .c (.int .i64 1)], none, 0⟩,
  ⟨2, .N .mv, [.l 0], none, 0⟩]
def l110_16 (φ : Nat → Nat) : ACode := .seq (.seq (.reg false (r110_13 φ) [(24, 0)]) (.cond (.n 24) (.skip) (.exit 4))) (.seq (.block 5 (.reg false (r110_14 φ) [(11, 0)])) (.reg false (r110_15 φ) [(12, 0)]))
def r110_17 (φ : Nat → Nat) : List AOper := [
  ⟨0, .N (.fadd 2), [.n 7], none, 0⟩,
  ⟨1, .N .load1, [.l 0], none, 0⟩,
  ⟨2, .N .mv, [.n 11], none, 0⟩,
  ⟨3, .N (.bsl [.nils] 1 1 [(0, 1)]), [.l 0], none, 0⟩,
  ⟨4, .X (.app 1 24), [.l 2, .l 0], none, 0⟩,
  ⟨5, .N (.fadd 2), [.n 7], none, 0⟩,
  ⟨6, .X (.store 1), [.l 0, .l 1], none, 0⟩]
def r110_18 (φ : Nat → Nat) : List AOper := [
  ⟨0, .N .mv, [.n 9], none, 0⟩,
  ⟨1, .N .mv, [.n 1], none, 0⟩,
  ⟨2, .N .mv, [.n 10], none, 0⟩,
  ⟨3, .N (.idx 1), [.l 1, .l 0], none, 6⟩,
  ⟨4, .N .load1, [.l 0], none, 14⟩,
  ⟨5, .N .mv, [.n 1], none, 0⟩,
  ⟨6, .N .mv, [.n 10], none, 0⟩,
  ⟨7, .N (.idx 1), [.l 1, .l 0], none, 96⟩,
  ⟨8, .N .load1, [.l 0], none, 224⟩,
  ⟨9, .N .lenS, [.l 0], none, 480⟩,
  ⟨10, .N .min, [.l 0, .c (.int .i64 30)], none, 992⟩,
  ⟨11, .N (.slc 3 false true false), [.l 6, .l 0], none, 2046⟩,
  ⟨12, .N (.bsl [.nils] 1 1 [(0, 1)]), [.l 0], none, 4094⟩,
  ⟨13, .X (.app 1 24), [.l 12, .l 0], none, 8191⟩,
  ⟨14, .N .mv, [.l 0], none, 16383⟩]
def r110_19 (φ : Nat → Nat) : List AOper := [
  ⟨0, .N .mv, [.n 10], none, 0⟩,
  ⟨1, .N (.bin .add), [.l 0, .c (.int .i64 1)], none, 0⟩,
  ⟨2, .N .mv, [.l 0], none, 0⟩]
def l110_20 (φ : Nat → Nat) : ACode := .seq (.seq (.reg false (r110_10 φ) [(23, 0)]) (.cond (.n 23) (.skip) (.exit 2))) (.seq (.block 3 (.seq (.reg false (r110_11 φ) [(11, 0)]) (.seq (.seq (.reg false (r110_12 φ) [(12, 0)]) (.block 4 (.loop (l110_16 φ)))) (.seq (.reg false (r110_17 φ) []) (.reg true (r110_18 φ) [(9, 0)]))))) (.reg false (r110_19 φ) [(10, 0)]))
def r110_21 (φ : Nat → Nat) : List AOper := [
  ⟨0, .N (.fadd 0), [.n 4], none, 0⟩,
  ⟨1, .N .load1, [.l 0], none, 0⟩,
  ⟨2, .N (.build [.int .i64 0, .nils] [(0, 1)]), [.l 0], none, 0⟩,
  ⟨3, .N (.build [.int .i64 0, .nils] [(0, 2)]), [.l 0], none, 0⟩,
  ⟨4, .N (.alloc [.int .i64 0, .nils]), [], none, 0⟩,
  ⟨5, .X (.store 2), [.l 0, .l 1], none, 0⟩]
def r110_22 (φ : Nat → Nat) : List AOper := [
  ⟨0, .N .mv, [.c (.int .i64 0)], none, 0⟩]
def r110_23 (φ : Nat → Nat) : List AOper := [
  ⟨0, .N .mv, [.n 14], none, 0⟩,
  ⟨1, .N (.fadd 1), [.n 4], none, 0⟩,
  ⟨2, .N .load1, [.l 0], none, 0⟩,
  ⟨3, .N .lenS, [.l 0], none, 0⟩,
  ⟨4, .N (.bin .lss), [.l 3, .l 0], none, 0⟩,
  ⟨5, .N .mv, [.l 0], none, 0⟩,
  ⟨6, .N .mv, [.n 14], some (.l 0, true), 0⟩,
  ⟨7, .N (.bin .lss), [.l 0, .c (.int .i64 30)], some (.l 1, true), 0⟩,
  ⟨8, .N .pick, [.l 2, .l 0, .c (.bool false)], none, 0⟩]
def r110_24 (φ : Nat → Nat) : List AOper := [
  ⟨0, .N (.fadd 0), [.n 13], none, 0⟩,
  ⟨1, .N (.fadd 1), [.l 0], none, 1⟩,
  ⟨2, .N .load1, [.l 0], none, 3⟩,
  ⟨3, .N (.fadd 1), [.n 4], none, 0⟩,
  ⟨4, .N .load1, [.l 0], none, 8⟩,
  ⟨5, .N .mv, [.n 14], none, 0⟩,
  ⟨6, .N (.idx 6), [.l 1, .l 0], none, 56⟩,
  ⟨7, .N (.loadN 6), [.l 0], none, 120⟩,
  ⟨8, .N (.bsl [.int .i64 0, .int .i64 0, .int .i64 0, .int .i64 0, .int .i64 0, .int .i64 0] 1 6 [(0, 6)]), [.l 0], none, 248⟩,
  ⟨9, .X (.app 6 48), [.l 6, .l 0], none, 511⟩,
  ⟨10, .N (.fadd 0), [.n 13], none, 1023⟩,
  ⟨11, .N (.fadd 1), [.l 0], none, 2047⟩,
  ⟨12, .X (.store 1), [.l 0, .l 2], none, 4095⟩]
def r110_25 (φ : Nat → Nat) : List AOper := [
  ⟨0, .N .mv, [.n 14], none, 0⟩,
  ⟨1, .N (.bin .add), [.l 0, .c (.int .i64 1)], none, 0⟩,
  ⟨2, .N .mv, [.l 0], none, 0⟩]
def l110_26 (φ : Nat → Nat) : ACode := .seq (.seq (.reg false (r110_23 φ) [(25, 0)]) (.cond (.n 25) (.skip) (.exit 6))) (.seq (.block 7 (.reg true (r110_24 φ) [])) (.reg false (r110_25 φ) [(14, 0)]))
def r110_27 (φ : Nat → Nat) : List AOper := [
  ⟨0, .N (.loadN 3), [.n 7], none, 0⟩,
  ⟨1, .N (.mki (φ 91)), [.l 0], none, 0⟩,
  ⟨2, .calli false (φ 99), [.l 0], none, 0⟩,
  ⟨3, .N .mv, [.l 0], none, 0⟩]
def r110_28 (φ : Nat → Nat) : List AOper := [
  ⟨0, .N (.loadN 2), [.n 13], none, 0⟩,
  ⟨1, .N (.mki (φ 95)), [.l 0], none, 0⟩,
  ⟨2, .calli false (φ 99), [.l 0], none, 0⟩,
  ⟨3, .N .mv, [.l 0], none, 0⟩]
def r110_29 (φ : Nat → Nat) : List AOper := [
  ⟨0, .N (.bsl [.int .i64 0] 1 1 [(0, 1)]), [.c (.int .i64 2)], none, 0⟩,
  ⟨1, .N (.fadd 0), [.n 7], none, 0⟩,
  ⟨2, .N (.fadd 0), [.l 0], none, 2⟩,
  ⟨3, .N .load1, [.l 0], none, 6⟩,
  ⟨6, .N (.fadd 0), [.n 7], none, 0⟩,
  ⟨7, .N (.fadd 1), [.l 0], none, 16⟩,
  ⟨8, .N .load1, [.l 0], none, 48⟩,
  ⟨11, .N .mv, [.n 9], none, 0⟩,
  ⟨4, .calli false (φ 102), [.l 4], none, 14⟩,
  ⟨5, .X (.app 1 8), [.l 8, .l 0], none, 271⟩,
  ⟨9, .calli false (φ 101), [.l 3], none, 895⟩,
  ⟨10, .X (.app 1 8), [.l 1, .l 0], none, 1919⟩,
  ⟨12, .calli false (φ 108), [.l 4], none, 4095⟩,
  ⟨13, .X (.app 1 8), [.l 1, .l 0], none, 8191⟩,
  ⟨14, .N .mv, [.l 0], none, 16383⟩]
def r110_30 (φ : Nat → Nat) : List AOper := [
  ⟨0, .N .mv, [.n 15], none, 0⟩,
  ⟨1, .calli false (φ 85), [.l 0], none, 0⟩,
  ⟨2, .N .mv, [.l 0], none, 0⟩,
  ⟨3, .N (.ext 0), [.l 0], none, 0⟩,
  ⟨4, .N (.ext 1), [.l 1], none, 0⟩,
  ⟨5, .N .mv, [.l 1], none, 0⟩,
  ⟨6, .N .mv, [.l 1], none, 0⟩]
def r110_31 (φ : Nat → Nat) : List AOper := [
  ⟨0, .N .mv, [.n 16], none, 0⟩,
  ⟨1, .calli false (φ 85), [.l 0], none, 0⟩,
  ⟨2, .N .mv, [.l 0], none, 0⟩,
  ⟨3, .N (.ext 0), [.l 0], none, 0⟩,
  ⟨4, .N (.ext 1), [.l 1], none, 0⟩,
  ⟨5, .N .mv, [.l 1], none, 0⟩,
  ⟨6, .N .mv, [.l 1], none, 0⟩]
def r110_32 (φ : Nat → Nat) : List AOper := [
  ⟨0, .N .mv, [.n 19], none, 0⟩,
  ⟨1, .N (.bin .neq), [.l 0, .c (.int .i64 0)], none, 0⟩,
  ⟨2, .N .mv, [.l 0], none, 0⟩,
  ⟨3, .N .mv, [.n 21], some (.l 0, false), 0⟩,
  ⟨4, .N (.bin .neq), [.l 0, .c (.int .i64 0)], some (.l 1, false), 0⟩,
  ⟨5, .N .pick, [.l 2, .c (.bool true), .l 0], none, 0⟩,
  ⟨6, .N .mv, [.l 0], none, 0⟩,
  ⟨7, .N .mv, [.n 18], some (.l 0, false), 0⟩,
  ⟨8, .N (.eqN 4 false), [.l 0, .c (.nili)], some (.l 1, false), 0⟩,
  ⟨9, .N .pick, [.l 2, .c (.bool true), .l 0], none, 0⟩,
  ⟨10, .N .mv, [.l 0], none, 0⟩,
  ⟨11, .N .mv, [.n 20], some (.l 0, false), 0⟩,
  ⟨12, .N (.eqN 4 false), [.l 0, .c (.nili)], some (.l 1, false), 0⟩,
  ⟨13, .N .pick, [.l 2, .c (.bool true), .l 0], none, 0⟩]
def r110_33 (φ : Nat → Nat) : List AOper := [
  ⟨0, .N .mv, [.c (.bool false)], none, 0⟩]
def r110_34 (φ : Nat → Nat) : List AOper := [
  ⟨0, .N .mv, [.n 6], none, 0⟩,
  ⟨1, .N .mv, [.l 0], none, 1⟩,
  ⟨2, .N .mv, [.n 15], some (.l 0, true), 3⟩,
  ⟨3, .N .mv, [.n 17], some (.l 1, true), 3⟩,
  ⟨4, .calli true (φ 11), [.l 1, .l 0], some (.l 2, true), 15⟩,
  ⟨5, .N .pick, [.l 3, .l 0, .c (.bool false)], none, 31⟩,
  ⟨6, .N .mv, [.l 0], none, 63⟩,
  ⟨7, .N .mv, [.n 16], some (.l 0, true), 127⟩,
  ⟨8, .N (.fadd 0), [.n 4], some (.l 1, true), 127⟩,
  ⟨9, .N .load1, [.l 0], some (.l 2, true), 383⟩,
  ⟨10, .N (.bsl [.int .i64 0] 2 1 [(0, 1), (1, 1)]), [.c (.int .i64 6), .l 0], some (.l 3, true), 895⟩,
  ⟨11, .N (.fadd 1), [.n 4], some (.l 4, true), 127⟩,
  ⟨12, .N .load1, [.l 0], some (.l 5, true), 2175⟩,
  ⟨13, .N (.fadd 1), [.n 4], some (.l 6, true), 127⟩,
  ⟨14, .N .load1, [.l 0], some (.l 7, true), 8319⟩,
  ⟨15, .N .lenS, [.l 0], some (.l 8, true), 24703⟩,
  ⟨16, .N .min, [.l 0, .c (.int .i64 30)], some (.l 9, true), 57471⟩,
  ⟨17, .N (.slc 6 false true false), [.l 4, .l 0], some (.l 10, true), 129151⟩,
  ⟨18, .calli false (φ 109), [.l 0], some (.l 11, true), 260223⟩,
  ⟨19, .X (.app 1 8), [.l 8, .l 0], some (.l 12, true), 524159⟩,
  ⟨20, .calli true (φ 11), [.l 12, .l 0], some (.l 13, true), 1048575⟩,
  ⟨21, .N .pick, [.l 14, .l 0, .c (.bool false)], none, 2097151⟩,
  ⟨22, .N .mv, [.l 0], none, 4194303⟩,
  ⟨23, .N .mv, [.n 18], some (.l 0, true), 8388607⟩,
  ⟨24, .inv [(φ 87, φ 88), (φ 89, φ 90), (φ 91, φ 92), (φ 93, φ 94), (φ 95, φ 96), (φ 97, φ 98)], [.l 0], some (.l 1, true), 16777215⟩,
  ⟨25, .N (.bin .eql), [.l 0, .c (.int .i64 2)], some (.l 2, true), 33554431⟩,
  ⟨26, .N .pick, [.l 3, .l 0, .c (.bool false)], none, 67108863⟩,
  ⟨27, .N .mv, [.l 0], none, 134217727⟩,
  ⟨28, .N .mv, [.n 20], some (.l 0, true), 268435455⟩,
  ⟨29, .inv [(φ 87, φ 88), (φ 89, φ 90), (φ 91, φ 92), (φ 93, φ 94), (φ 95, φ 96), (φ 97, φ 98)], [.l 0], some (.l 1, true), 536870911⟩,
  ⟨30, .N (.bin .eql), [.l 0, .c (.int .i64 6)], some (.l 2, true), 1073741823⟩,
  ⟨31, .N .pick, [.l 3, .l 0, .c (.bool false)], none, 2147483647⟩,
  ⟨32, .N .mv, [.l 0], none, 4294967295⟩,
  ⟨33, .N .mv, [.n 18], some (.l 0, true), 8589934591⟩,
  ⟨35, .N .mv, [.n 15], some (.l 1, true), 8589934591⟩,
  ⟨34, .calli false (φ 99), [.l 1], some (.l 2, true), 17179869183⟩,
  ⟨36, .calli true (φ 11), [.l 0, .l 1], some (.l 3, true), 68719476735⟩,
  ⟨37, .N .pick, [.l 4, .l 0, .c (.bool false)], none, 137438953471⟩,
  ⟨38, .N .mv, [.l 0], none, 274877906943⟩,
  ⟨39, .N .mv, [.n 20], some (.l 0, true), 549755813887⟩,
  ⟨41, .N .mv, [.n 16], some (.l 1, true), 549755813887⟩,
  ⟨40, .calli false (φ 99), [.l 1], some (.l 2, true), 1099511627775⟩,
  ⟨42, .calli true (φ 11), [.l 0, .l 1], some (.l 3, true), 4398046511103⟩,
  ⟨43, .N .pick, [.l 4, .l 0, .c (.bool false)], none, 8796093022207⟩,
  ⟨44, .N .mv, [.l 0], none, 17592186044415⟩]
def b110 (φ : Nat → Nat) : ACode := .seq (.reg false (r110_0 φ) [(3, 2), (4, 1), (5, 0)]) (.seq (.reg false (r110_1 φ) [(6, 0)]) (.seq (.reg false (r110_2 φ) [(7, 1)]) (.seq (.seq (.reg false (r110_3 φ) [(8, 0)]) (.block 0 (.loop (l110_7 φ)))) (.seq (.reg false (r110_8 φ) [(9, 0)]) (.seq (.seq (.reg false (r110_9 φ) [(10, 0)]) (.block 2 (.loop (l110_20 φ)))) (.seq (.reg false (r110_21 φ) [(13, 1)]) (.seq (.seq (.reg false (r110_22 φ) [(14, 0)]) (.block 6 (.loop (l110_26 φ)))) (.seq (.reg false (r110_27 φ) [(15, 0)]) (.seq (.reg false (r110_28 φ) [(16, 0)]) (.seq (.reg true (r110_29 φ) [(17, 0)]) (.seq (.reg false (r110_30 φ) [(18, 1), (19, 0)]) (.seq (.reg false (r110_31 φ) [(20, 1), (21, 0)]) (.seq (.seq (.reg false (r110_32 φ) [(26, 0)]) (.cond (.n 26) (.seq (.reg false (r110_33 φ) [(5, 0)]) (.ret)) (.skip))) (.seq (.reg true (r110_34 φ) [(5, 0)]) (.ret)))))))))))))))
def f110 (φ : Nat → Nat) : AFn := ⟨3, [0, 1, 2, 3, 5, 6, 7, 8, 9, 10, 11, 12, 13, 14, 15, 16, 17, 18, 19, 20, 21, 22, 43, 75, 88, 133, 191], 236, b110 φ, [.t 5]⟩
/-! 111: carcanet/carcanetlaw22.CertCut: 0:l 1:at 2:more 3: 4:head 5:e 6:f 7:g 8: 9: -/
def r111_0 (φ : Nat → Nat) : List AOper := [
  ⟨0, .N .mv, [.c (.bool false)], none, 0⟩]
def r111_1 (φ : Nat → Nat) : List AOper := [
  ⟨0, .calli true (φ 84), [], none, 0⟩,
  ⟨1, .N .mv, [.l 0], none, 0⟩]
def r111_2 (φ : Nat → Nat) : List AOper := [
  ⟨0, .N (.bsl [.int .i64 0] 0 1 []), [], none, 0⟩,
  ⟨1, .N .mv, [.n 0], none, 0⟩,
  ⟨2, .N .mv, [.n 0], none, 0⟩,
  ⟨3, .N .lenS, [.l 0], none, 0⟩,
  ⟨4, .N .min, [.l 0, .c (.int .i64 200)], none, 0⟩,
  ⟨5, .N (.slc 1 false true false), [.l 3, .l 0], none, 0⟩,
  ⟨6, .X (.app 1 8), [.l 5, .l 0], none, 0⟩,
  ⟨7, .N .mv, [.l 0], none, 0⟩]
def r111_3 (φ : Nat → Nat) : List AOper := [
  ⟨0, .N .mv, [.n 0], none, 0⟩,
  ⟨1, .calli false (φ 85), [.l 0], none, 0⟩,
  ⟨2, .N .mv, [.l 0], none, 0⟩,
  ⟨3, .N (.ext 0), [.l 0], none, 0⟩,
  ⟨4, .N (.ext 1), [.l 1], none, 0⟩,
  ⟨5, .N .mv, [.l 1], none, 0⟩,
  ⟨6, .N .mv, [.l 1], none, 0⟩]
def r111_4 (φ : Nat → Nat) : List AOper := [
  ⟨0, .N .mv, [.n 5], none, 0⟩,
  ⟨1, .N (.bin .neq), [.l 0, .c (.int .i64 0)], none, 0⟩]
def r111_5 (φ : Nat → Nat) : List AOper := [
  ⟨0, .N .mv, [.n 4], none, 0⟩,
  ⟨1, .N .mv, [.l 0], none, 0⟩,
  ⟨2, .N .mv, [.n 5], some (.l 0, true), 0⟩,
  ⟨3, .N (.bin .eql), [.l 0, .c (.int .i64 3)], some (.l 1, true), 0⟩,
  ⟨4, .N .pick, [.l 2, .l 0, .c (.bool false)], none, 0⟩,
  ⟨5, .N .mv, [.l 0], none, 0⟩]
def r111_6 (φ : Nat → Nat) : List AOper := [
  ⟨0, .N .mv, [.n 0], none, 0⟩,
  ⟨1, .N .lenS, [.l 0], none, 0⟩,
  ⟨2, .N (.bin .eql), [.l 0, .c (.int .i64 0)], none, 0⟩]
def r111_7 (φ : Nat → Nat) : List AOper := [
  ⟨0, .N .mv, [.c (.bool false)], none, 0⟩]
def r111_8 (φ : Nat → Nat) : List AOper := [
  ⟨0, .N .mv, [.n 1], none, 0⟩,
  ⟨1, .N (.bin .and), [.l 0, .c (.int .i64 65535)], none, 0⟩,
  ⟨2, .N .mv, [.n 0], none, 0⟩,
  ⟨3, .N .lenS, [.l 0], none, 0⟩,
  ⟨4, .N (.bin .rem), [.l 2, .l 0], none, 0⟩,
  ⟨5, .N .mv, [.l 0], none, 0⟩]
def r111_9 (φ : Nat → Nat) : List AOper := [
  ⟨0, .N .mv, [.n 0], none, 0⟩,
  ⟨1, .N .mv, [.n 1], none, 0⟩,
  ⟨2, .N (.slc 1 false true false), [.l 1, .l 0], none, 0⟩,
  ⟨3, .calli false (φ 85), [.l 0], none, 0⟩,
  ⟨4, .N .mv, [.l 0], none, 0⟩,
  ⟨5, .N (.ext 0), [.l 0], none, 0⟩,
  ⟨6, .N (.ext 1), [.l 1], none, 0⟩,
  ⟨7, .N .mv, [.l 1], none, 0⟩,
  ⟨8, .N .mv, [.l 1], none, 0⟩]
def r111_10 (φ : Nat → Nat) : List AOper := [
  ⟨0, .N (.bsl [.int .i64 0] 0 1 []), [], none, 0⟩,
  ⟨1, .N .mv, [.n 0], none, 0⟩,
  ⟨2, .X (.app 1 8), [.l 1, .l 0], none, 0⟩,
  ⟨3, .N .mv, [.n 2], none, 0⟩,
  ⟨4, .N (.bsl [.int .i64 0] 1 1 [(0, 1)]), [.l 0], none, 0⟩,
  ⟨5, .X (.app 1 8), [.l 2, .l 0], none, 0⟩,
  ⟨6, .calli false (φ 85), [.l 0], none, 0⟩,
  ⟨7, .N .mv, [.l 0], none, 0⟩,
  ⟨8, .N (.ext 0), [.l 0], none, 0⟩,
  ⟨9, .N (.ext 1), [.l 1], none, 0⟩,
  ⟨10, .N .mv, [.l 1], none, 0⟩,
  ⟨11, .N .mv, [.l 1], none, 0⟩]
def r111_11 (φ : Nat → Nat) : List AOper := [
  ⟨0, .N .mv, [.n 4], none, 0⟩,
  ⟨1, .N .mv, [.l 0], none, 0⟩,
  ⟨2, .N .mv, [.n 6], some (.l 0, true), 0⟩,
  ⟨3, .N (.bin .eql), [.l 0, .c (.int .i64 3)], some (.l 1, true), 0⟩,
  ⟨4, .N .pick, [.l 2, .l 0, .c (.bool false)], none, 0⟩,
  ⟨5, .N .mv, [.l 0], none, 0⟩,
  ⟨6, .N .mv, [.n 7], some (.l 0, true), 0⟩,
  ⟨7, .N (.bin .eql), [.l 0, .c (.int .i64 3)], some (.l 1, true), 0⟩,
  ⟨8, .N .pick, [.l 2, .l 0, .c (.bool false)], none, 0⟩,
  ⟨9, .N .mv, [.l 0], none, 0⟩]
def b111 (φ : Nat → Nat) : ACode := .seq (.reg false (r111_0 φ) [(3, 0)]) (.seq (.reg false (r111_1 φ) [(4, 0)]) (.seq (.reg false (r111_2 φ) [(0, 0)]) (.seq (.reg false (r111_3 φ) [(5, 0)]) (.seq (.seq (.reg false (r111_4 φ) [(8, 0)]) (.cond (.n 8) (.seq (.reg false (r111_5 φ) [(3, 0)]) (.ret)) (.skip))) (.seq (.seq (.reg false (r111_6 φ) [(9, 0)]) (.cond (.n 9) (.seq (.reg false (r111_7 φ) [(3, 0)]) (.ret)) (.skip))) (.seq (.reg false (r111_8 φ) [(1, 0)]) (.seq (.reg false (r111_9 φ) [(6, 0)]) (.seq (.reg false (r111_10 φ) [(7, 0)]) (.seq (.reg false (r111_11 φ) [(3, 0)]) (.ret))))))))))
def f111 (φ : Nat → Nat) : AFn := ⟨3, [0, 1, 2, 6, 7, 9, 11, 13, 28, 36], 68, b111 φ, [.t 3]⟩
/-! 114: carcanet/carcanetlaw22.CertAsks: 0:l 1: 2:head 3:c 4:s 5:e 6:o 7:ok 8:want 9:w 10: 11: 12: 13: 14: 15: -/
def r114_0 (φ : Nat → Nat) : List AOper := [
  ⟨0, .N .mv, [.c (.bool false)], none, 0⟩]
def r114_1 (φ : Nat → Nat) : List AOper := [
  ⟨0, .calli true (φ 84), [], none, 0⟩,
  ⟨1, .N .mv, [.l 0], none, 0⟩]
def r114_2 (φ : Nat → Nat) : List AOper := [
  ⟨0, .N (.bsl [.int .i64 0] 0 1 []), [], none, 0⟩,
  ⟨1, .N .mv, [.n 0], none, 0⟩,
  ⟨2, .N .mv, [.n 0], none, 0⟩,
  ⟨3, .N .lenS, [.l 0], none, 0⟩,
  ⟨4, .N .min, [.l 0, .c (.int .i64 200)], none, 0⟩,
  ⟨5, .N (.slc 1 false true false), [.l 3, .l 0], none, 0⟩,
  ⟨6, .X (.app 1 8), [.l 5, .l 0], none, 0⟩,
  ⟨7, .N .mv, [.l 0], none, 0⟩]
def r114_3 (φ : Nat → Nat) : List AOper := [
  ⟨0, .N .mv, [.n 0], none, 0⟩,
  ⟨1, .calli false (φ 85), [.l 0], none, 0⟩,
  ⟨2, .N .mv, [.l 0], none, 0⟩,
  ⟨3, .N (.ext 0), [.l 0], none, 0⟩,
  ⟨4, .N (.ext 1), [.l 1], none, 0⟩,
  ⟨5, .N .mv, [.l 1], none, 0⟩,
  ⟨6, .N .mv, [.l 1], none, 0⟩]
def r114_4 (φ : Nat → Nat) : List AOper := [
  ⟨0, .N .mv, [.n 3], none, 0⟩,
  ⟨1, .calli false (φ 105), [.l 0], none, 0⟩,
  ⟨2, .N .mv, [.l 0], none, 0⟩,
  ⟨3, .N (.ext 0), [.l 0], none, 0⟩,
  ⟨4, .N (.ext 1), [.l 1], none, 0⟩,
  ⟨5, .N (.alloc [.int .i64 0, .nils, .nils]), [], none, 0⟩,
  ⟨6, .X (.store 3), [.l 0, .l 2], none, 0⟩,
  ⟨7, .N .mv, [.l 2], none, 0⟩]
def r114_5 (φ : Nat → Nat) : List AOper := [
  ⟨0, .N .mv, [.n 3], none, 0⟩,
  ⟨1, .calli false (φ 103), [.l 0], none, 0⟩,
  ⟨2, .N .mv, [.l 0], none, 0⟩,
  ⟨3, .N (.ext 0), [.l 0], none, 0⟩,
  ⟨4, .N (.ext 1), [.l 1], none, 0⟩,
  ⟨5, .N .mv, [.l 1], none, 0⟩,
  ⟨6, .N .mv, [.l 1], none, 0⟩]
def r114_6 (φ : Nat → Nat) : List AOper := [
  ⟨0, .N .mv, [.n 0], none, 0⟩,
  ⟨1, .calli true (φ 86), [.l 0], none, 0⟩,
  ⟨2, .N (.un .not), [.l 0], none, 0⟩]
def r114_7 (φ : Nat → Nat) : List AOper := [
  ⟨0, .N .mv, [.n 2], none, 0⟩,
  ⟨1, .N .mv, [.l 0], none, 0⟩,
  ⟨2, .N .mv, [.n 5], some (.l 0, true), 0⟩,
  ⟨3, .N (.bin .eql), [.l 0, .c (.int .i64 7)], some (.l 1, true), 0⟩,
  ⟨4, .N .pick, [.l 2, .l 0, .c (.bool false)], none, 0⟩,
  ⟨5, .N .mv, [.l 0], none, 0⟩,
  ⟨6, .N .mv, [.n 7], some (.l 0, true), 0⟩,
  ⟨7, .N (.un .not), [.l 0], some (.l 1, true), 0⟩,
  ⟨8, .N .pick, [.l 2, .l 0, .c (.bool false)], none, 0⟩,
  ⟨9, .N .mv, [.l 0], none, 0⟩,
  ⟨10, .N .mv, [.n 6], some (.l 0, true), 0⟩,
  ⟨11, .N .lenS, [.l 0], some (.l 1, true), 0⟩,
  ⟨12, .N (.bin .eql), [.l 0, .c (.int .i64 0)], some (.l 2, true), 0⟩,
  ⟨13, .N .pick, [.l 3, .l 0, .c (.bool false)], none, 0⟩,
  ⟨14, .N .mv, [.l 0], none, 0⟩,
  ⟨15, .N (.fadd 0), [.n 4], some (.l 0, true), 0⟩,
  ⟨16, .N .load1, [.l 0], some (.l 1, true), 0⟩,
  ⟨17, .N (.bin .eql), [.l 0, .c (.int .i64 0)], some (.l 2, true), 0⟩,
  ⟨18, .N .pick, [.l 3, .l 0, .c (.bool false)], none, 0⟩,
  ⟨19, .N .mv, [.l 0], none, 0⟩,
  ⟨20, .N (.fadd 1), [.n 4], some (.l 0, true), 0⟩,
  ⟨21, .N .load1, [.l 0], some (.l 1, true), 0⟩,
  ⟨22, .N .lenS, [.l 0], some (.l 2, true), 0⟩,
  ⟨23, .N (.fadd 2), [.n 4], some (.l 3, true), 0⟩,
  ⟨24, .N .load1, [.l 0], some (.l 4, true), 0⟩,
  ⟨25, .N .lenS, [.l 0], some (.l 5, true), 0⟩,
  ⟨26, .N (.bin .add), [.l 3, .l 0], some (.l 6, true), 0⟩,
  ⟨27, .N (.bin .eql), [.l 0, .c (.int .i64 0)], some (.l 7, true), 0⟩,
  ⟨28, .N .pick, [.l 8, .l 0, .c (.bool false)], none, 0⟩,
  ⟨29, .N .mv, [.l 0], none, 0⟩,
  ⟨30, .calli false (φ 99), [.c (.nili)], some (.l 0, true), 0⟩,
  ⟨31, .N .lenS, [.l 0], some (.l 1, true), 0⟩,
  ⟨32, .N (.bin .eql), [.l 0, .c (.int .i64 0)], some (.l 2, true), 0⟩,
  ⟨33, .N .pick, [.l 3, .l 0, .c (.bool false)], none, 0⟩,
  ⟨34, .N .mv, [.l 0], none, 0⟩]
def r114_8 (φ : Nat → Nat) : List AOper := [
  ⟨0, .N (.bsl [.int .i64 0] 0 1 []), [], none, 0⟩,
  ⟨1, .N .mv, [.l 0], none, 0⟩]
def r114_9 (φ : Nat → Nat) : List AOper := [
  ⟨0, .N .mv, [.n 0], none, 0⟩,
  ⟨1, .N (.idx 1), [.l 0, .c (.int .i64 0)], none, 0⟩,
  ⟨2, .N .load1, [.l 0], none, 0⟩,
  ⟨3, .N (.bin .eql), [.l 0, .c (.int .i64 1)], none, 0⟩]
def r114_10 (φ : Nat → Nat) : List AOper := [
  ⟨0, .N .mv, [.n 0], none, 0⟩,
  ⟨1, .calli false (φ 112), [.l 0, .c (.int .i64 1)], none, 0⟩,
  ⟨2, .N .mv, [.l 0], none, 0⟩]
def r114_11 (φ : Nat → Nat) : List AOper := [
  ⟨0, .N .mv, [.n 0], none, 0⟩,
  ⟨1, .N (.idx 1), [.l 0, .c (.int .i64 0)], none, 0⟩,
  ⟨2, .N .load1, [.l 0], none, 0⟩,
  ⟨3, .N (.bin .eql), [.l 0, .c (.int .i64 5)], none, 0⟩]
def r114_12 (φ : Nat → Nat) : List AOper := [
  ⟨0, .N .mv, [.n 0], none, 0⟩,
  ⟨1, .calli false (φ 112), [.l 0, .c (.int .i64 3)], none, 0⟩,
  ⟨2, .N .mv, [.l 0], none, 0⟩]
def r114_13 (φ : Nat → Nat) : List AOper := [
  ⟨0, .N .mv, [.n 0], none, 0⟩,
  ⟨1, .N (.idx 1), [.l 0, .c (.int .i64 0)], none, 0⟩,
  ⟨2, .N .load1, [.l 0], none, 0⟩,
  ⟨3, .N (.bin .eql), [.l 0, .c (.int .i64 4)], none, 0⟩]
def r114_14 (φ : Nat → Nat) : List AOper := [
  ⟨0, .N .mv, [.n 0], none, 0⟩,
  ⟨1, .calli false (φ 113), [.l 0], none, 0⟩,
  ⟨2, .N (.alloc [.int .i64 0, .nils, .nils]), [], none, 0⟩,
  ⟨3, .X (.store 3), [.l 0, .l 1], none, 0⟩]
def r114_15 (φ : Nat → Nat) : List AOper := [
  ⟨0, .N .mv, [.n 5], none, 0⟩,
  ⟨1, .N (.bin .neq), [.l 0, .c (.int .i64 0)], none, 0⟩,
  ⟨2, .N .mv, [.l 0], none, 0⟩,
  ⟨3, .N (.fadd 0), [.n 4], some (.l 0, false), 0⟩,
  ⟨4, .N .load1, [.l 0], some (.l 1, false), 0⟩,
  ⟨5, .N (.fadd 0), [.n 9], some (.l 2, false), 0⟩,
  ⟨6, .N .load1, [.l 0], some (.l 3, false), 0⟩,
  ⟨7, .N (.bin .neq), [.l 2, .l 0], some (.l 4, false), 0⟩,
  ⟨8, .N .pick, [.l 5, .c (.bool true), .l 0], none, 0⟩,
  ⟨9, .N .mv, [.l 0], none, 0⟩,
  ⟨10, .N (.fadd 1), [.n 4], some (.l 0, false), 0⟩,
  ⟨11, .N .load1, [.l 0], some (.l 1, false), 0⟩,
  ⟨12, .N (.fadd 1), [.n 9], some (.l 2, false), 0⟩,
  ⟨13, .N .load1, [.l 0], some (.l 3, false), 0⟩,
  ⟨14, .calli true (φ 11), [.l 2, .l 0], some (.l 4, false), 0⟩,
  ⟨15, .N (.un .not), [.l 0], some (.l 5, false), 0⟩,
  ⟨16, .N .pick, [.l 6, .c (.bool true), .l 0], none, 0⟩,
  ⟨17, .N .mv, [.l 0], none, 0⟩,
  ⟨18, .N (.fadd 2), [.n 4], some (.l 0, false), 0⟩,
  ⟨19, .N .load1, [.l 0], some (.l 1, false), 0⟩,
  ⟨20, .N (.fadd 2), [.n 9], some (.l 2, false), 0⟩,
  ⟨21, .N .load1, [.l 0], some (.l 3, false), 0⟩,
  ⟨22, .calli true (φ 70), [.l 2, .l 0], some (.l 4, false), 0⟩,
  ⟨23, .N (.un .not), [.l 0], some (.l 5, false), 0⟩,
  ⟨24, .N .pick, [.l 6, .c (.bool true), .l 0], none, 0⟩]
def r114_16 (φ : Nat → Nat) : List AOper := [
  ⟨0, .N .mv, [.c (.bool false)], none, 0⟩]
def r114_17 (φ : Nat → Nat) : List AOper := [
  ⟨0, .N .mv, [.n 5], none, 0⟩,
  ⟨1, .N (.bin .neq), [.l 0, .c (.int .i64 7)], none, 0⟩,
  ⟨2, .N .mv, [.l 0], none, 0⟩,
  ⟨3, .N (.fadd 0), [.n 4], some (.l 0, false), 0⟩,
  ⟨4, .N .load1, [.l 0], some (.l 1, false), 0⟩,
  ⟨5, .N (.bin .neq), [.l 0, .c (.int .i64 0)], some (.l 2, false), 0⟩,
  ⟨6, .N .pick, [.l 3, .c (.bool true), .l 0], none, 0⟩,
  ⟨7, .N .mv, [.l 0], none, 0⟩,
  ⟨8, .N (.fadd 1), [.n 4], some (.l 0, false), 0⟩,
  ⟨9, .N .load1, [.l 0], some (.l 1, false), 0⟩,
  ⟨10, .N .lenS, [.l 0], some (.l 2, false), 0⟩,
  ⟨11, .N (.fadd 2), [.n 4], some (.l 3, false), 0⟩,
  ⟨12, .N .load1, [.l 0], some (.l 4, false), 0⟩,
  ⟨13, .N .lenS, [.l 0], some (.l 5, false), 0⟩,
  ⟨14, .N (.bin .add), [.l 3, .l 0], some (.l 6, false), 0⟩,
  ⟨15, .N (.bin .neq), [.l 0, .c (.int .i64 0)], some (.l 7, false), 0⟩,
  ⟨16, .N .pick, [.l 8, .c (.bool true), .l 0], none, 0⟩]
def r114_18 (φ : Nat → Nat) : List AOper := [
  ⟨0, .N .mv, [.c (.bool false)], none, 0⟩]
def r114_19 (φ : Nat → Nat) : List AOper := [
  ⟨0, .N .mv, [.n 2], none, 0⟩,
  ⟨1, .N .mv, [.l 0], none, 0⟩,
  ⟨2, .N .mv, [.n 7], some (.l 0, true), 0⟩,
  ⟨3, .N .mv, [.n 0], some (.l 1, true), 0⟩,
  ⟨4, .N (.idx 1), [.l 0, .c (.int .i64 0)], some (.l 2, true), 0⟩,
  ⟨5, .N .load1, [.l 0], some (.l 3, true), 0⟩,
  ⟨6, .N (.bin .eql), [.l 0, .c (.int .i64 1)], some (.l 4, true), 0⟩,
  ⟨7, .N .mv, [.l 0], some (.l 5, true), 0⟩,
  ⟨8, .N .mv, [.n 0], some (.l 0, false), 0⟩,
  ⟨9, .N (.idx 1), [.l 0, .c (.int .i64 0)], some (.l 1, false), 0⟩,
  ⟨10, .N .load1, [.l 0], some (.l 2, false), 0⟩,
  ⟨11, .N (.bin .eql), [.l 0, .c (.int .i64 5)], some (.l 3, false), 0⟩,
  ⟨12, .N .pick, [.l 4, .c (.bool true), .l 0], some (.l 10, true), 0⟩,
  ⟨13, .N (.eqB false), [.l 10, .l 0], some (.l 11, true), 0⟩,
  ⟨14, .N .pick, [.l 12, .l 0, .c (.bool false)], none, 0⟩,
  ⟨15, .N .mv, [.l 0], none, 0⟩,
  ⟨16, .N .mv, [.n 6], some (.l 0, true), 0⟩,
  ⟨17, .N .mv, [.n 8], some (.l 1, true), 0⟩,
  ⟨18, .calli true (φ 11), [.l 1, .l 0], some (.l 2, true), 0⟩,
  ⟨19, .N .pick, [.l 3, .l 0, .c (.bool false)], none, 0⟩,
  ⟨20, .N .mv, [.l 0], none, 0⟩]
def b114 (φ : Nat → Nat) : ACode := .seq (.reg false (r114_0 φ) [(1, 0)]) (.seq (.reg false (r114_1 φ) [(2, 0)]) (.seq (.reg false (r114_2 φ) [(0, 0)]) (.seq (.reg false (r114_3 φ) [(3, 1)]) (.seq (.reg false (r114_4 φ) [(4, 2), (5, 0)]) (.seq (.reg false (r114_5 φ) [(6, 1), (7, 0)]) (.seq (.seq (.reg false (r114_6 φ) [(10, 0)]) (.cond (.n 10) (.seq (.reg false (r114_7 φ) [(1, 0)]) (.ret)) (.skip))) (.seq (.reg false (r114_8 φ) [(8, 0)]) (.seq (.seq (.reg false (r114_9 φ) [(11, 0)]) (.cond (.n 11) (.reg false (r114_10 φ) [(8, 0)]) (.skip))) (.seq (.seq (.reg false (r114_11 φ) [(12, 0)]) (.cond (.n 12) (.reg false (r114_12 φ) [(8, 0)]) (.skip))) (.seq (.seq (.reg false (r114_13 φ) [(13, 0)]) (.cond (.n 13) (.seq (.reg false (r114_14 φ) [(9, 1)]) (.seq (.reg false (r114_15 φ) [(14, 0)]) (.cond (.n 14) (.seq (.reg false (r114_16 φ) [(1, 0)]) (.ret)) (.skip)))) (.seq (.reg false (r114_17 φ) [(15, 0)]) (.cond (.n 15) (.seq (.reg false (r114_18 φ) [(1, 0)]) (.ret)) (.skip))))) (.seq (.reg false (r114_19 φ) [(1, 0)]) (.ret))))))))))))
def f114 (φ : Nat → Nat) : AFn := ⟨1, [0, 2, 3, 4, 6, 7, 8, 9, 10, 11, 37, 76, 82, 88, 115, 132], 153, b114 φ, [.t 1]⟩
/-! 115: carcanet/carcanetlaw22.CertOwn: 0:l 1:x 2: 3:head 4:n 5:was 6:c 7:e 8:i 9:a 10:i 11:o 12:ok 13:i 14: 15: 16: -/
def r115_0 (φ : Nat → Nat) : List AOper := [
  ⟨0, .N .mv, [.c (.bool false)], none, 0⟩]
def r115_1 (φ : Nat → Nat) : List AOper := [
  ⟨0, .calli true (φ 84), [], none, 0⟩,
  ⟨1, .N .mv, [.l 0], none, 0⟩]
def r115_2 (φ : Nat → Nat) : List AOper := [
  ⟨0, .N (.bsl [.int .i64 0] 0 1 []), [], none, 0⟩,
  ⟨1, .N .mv, [.n 0], none, 0⟩,
  ⟨2, .N .mv, [.n 0], none, 0⟩,
  ⟨3, .N .lenS, [.l 0], none, 0⟩,
  ⟨4, .N .min, [.l 0, .c (.int .i64 30)], none, 0⟩,
  ⟨5, .N (.slc 1 false true false), [.l 3, .l 0], none, 0⟩,
  ⟨6, .X (.app 1 8), [.l 5, .l 0], none, 0⟩,
  ⟨7, .N .mv, [.l 0], none, 0⟩]
def r115_3 (φ : Nat → Nat) : List AOper := [
  ⟨0, .N .mv, [.n 0], none, 0⟩,
  ⟨1, .N .lenS, [.l 0], none, 0⟩,
  ⟨2, .N (.bsl [.int .i64 0] 2 1 [(0, 1), (1, 1)]), [.c (.int .i64 1), .l 0], none, 0⟩,
  ⟨3, .N .mv, [.n 0], none, 0⟩,
  ⟨4, .X (.app 1 8), [.l 1, .l 0], none, 0⟩,
  ⟨5, .N .mv, [.l 0], none, 0⟩]
def r115_4 (φ : Nat → Nat) : List AOper := [
  ⟨0, .N .mv, [.n 4], none, 0⟩,
  ⟨1, .N (.bsl [.int .i64 0] 1 1 [(0, 1)]), [.c (.int .i64 1)], none, 0⟩,
  ⟨2, .X (.app 1 8), [.l 1, .l 0], none, 0⟩,
  ⟨3, .N .mv, [.l 0], none, 0⟩]
def r115_5 (φ : Nat → Nat) : List AOper := [
  ⟨0, .N .mv, [.n 4], none, 0⟩,
  ⟨1, .N .mv, [.n 0], none, 0⟩,
  ⟨2, .calli false (φ 101), [.l 0], none, 0⟩,
  ⟨3, .X (.app 1 8), [.l 2, .l 0], none, 0⟩,
  ⟨4, .N .mv, [.l 0], none, 0⟩]
def r115_6 (φ : Nat → Nat) : List AOper := [
  ⟨0, .N (.bsl [.int .i64 0] 0 1 []), [], none, 0⟩,
  ⟨1, .N .mv, [.n 4], none, 0⟩,
  ⟨2, .X (.app 1 8), [.l 1, .l 0], none, 0⟩,
  ⟨3, .N .mv, [.l 0], none, 0⟩]
def r115_7 (φ : Nat → Nat) : List AOper := [
  ⟨0, .N .mv, [.n 4], none, 0⟩,
  ⟨1, .call (φ 85), [.l 0], none, 0⟩,
  ⟨2, .N .mv, [.l 0], none, 0⟩,
  ⟨3, .N (.ext 0), [.l 0], none, 0⟩,
  ⟨4, .N (.ext 1), [.l 1], none, 0⟩,
  ⟨5, .N .mv, [.l 1], none, 0⟩,
  ⟨6, .N .mv, [.l 1], none, 0⟩]
def r115_8 (φ : Nat → Nat) : List AOper := [
  ⟨0, .N .mv, [.c (.int .i64 0)], none, 0⟩]
def r115_9 (φ : Nat → Nat) : List AOper := [
  ⟨0, .N .mv, [.n 8], none, 0⟩,
  ⟨1, .N .mv, [.n 4], none, 0⟩,
  ⟨2, .N .lenS, [.l 0], none, 0⟩,
  ⟨3, .N (.bin .lss), [.l 2, .l 0], none, 0⟩]
def r115_10 (φ : Nat → Nat) : List AOper := [
  ⟨0, .N .mv, [.n 4], none, 0⟩,
  ⟨1, .N .mv, [.n 8], none, 0⟩,
  ⟨2, .N .mv, [.n 1], none, 0⟩,
  ⟨3, .N (.idx 1), [.l 2, .l 1], none, 0⟩,
  ⟨4, .X (.store 1), [.l 0, .l 1], none, 0⟩]
def r115_11 (φ : Nat → Nat) : List AOper := [
  ⟨0, .N .mv, [.n 8], none, 0⟩,
  ⟨1, .N (.bin .add), [.l 0, .c (.int .i64 1)], none, 0⟩,
  ⟨2, .N .mv, [.l 0], none, 0⟩]
def l115_12 (φ : Nat → Nat) : ACode := .seq (.seq (.reg false (r115_9 φ) [(14, 0)]) (.cond (.n 14) (.skip) (.exit 0))) (.seq (.block 1 (.reg false (r115_10 φ) [])) (.reg false (r115_11 φ) [(8, 0)]))
def r115_13 (φ : Nat → Nat) : List AOper := [
  ⟨0, .N .mv, [.n 6], none, 0⟩,
  ⟨1, .call (φ 99), [.l 0], none, 0⟩,
  ⟨2, .N .mv, [.l 0], none, 0⟩]
def r115_14 (φ : Nat → Nat) : List AOper := [
  ⟨0, .N .mv, [.c (.int .i64 0)], none, 0⟩]
def r115_15 (φ : Nat → Nat) : List AOper := [
  ⟨0, .N .mv, [.n 10], none, 0⟩,
  ⟨1, .N .mv, [.n 9], none, 0⟩,
  ⟨2, .N .lenS, [.l 0], none, 0⟩,
  ⟨3, .N (.bin .lss), [.l 2, .l 0], none, 0⟩]
def r115_16 (φ : Nat → Nat) : List AOper := [
  ⟨0, .N .mv, [.n 9], none, 0⟩,
  ⟨1, .N .mv, [.n 10], none, 0⟩,
  ⟨2, .N .mv, [.n 1], none, 0⟩,
  ⟨3, .N (.idx 1), [.l 2, .l 1], none, 0⟩,
  ⟨4, .X (.store 1), [.l 0, .l 1], none, 0⟩]
def r115_17 (φ : Nat → Nat) : List AOper := [
  ⟨0, .N .mv, [.n 10], none, 0⟩,
  ⟨1, .N (.bin .add), [.l 0, .c (.int .i64 1)], none, 0⟩,
  ⟨2, .N .mv, [.l 0], none, 0⟩]
def l115_18 (φ : Nat → Nat) : ACode := .seq (.seq (.reg false (r115_15 φ) [(15, 0)]) (.cond (.n 15) (.skip) (.exit 2))) (.seq (.block 3 (.reg false (r115_16 φ) [])) (.reg false (r115_17 φ) [(10, 0)]))
def r115_19 (φ : Nat → Nat) : List AOper := [
  ⟨0, .N .mv, [.n 6], none, 0⟩,
  ⟨1, .call (φ 103), [.l 0], none, 0⟩,
  ⟨2, .N .mv, [.l 0], none, 0⟩,
  ⟨3, .N (.ext 0), [.l 0], none, 0⟩,
  ⟨4, .N (.ext 1), [.l 1], none, 0⟩,
  ⟨5, .N .mv, [.l 1], none, 0⟩,
  ⟨6, .N .mv, [.l 1], none, 0⟩]
def r115_20 (φ : Nat → Nat) : List AOper := [
  ⟨0, .N .mv, [.c (.int .i64 0)], none, 0⟩]
def r115_21 (φ : Nat → Nat) : List AOper := [
  ⟨0, .N .mv, [.n 13], none, 0⟩,
  ⟨1, .N .mv, [.n 11], none, 0⟩,
  ⟨2, .N .lenS, [.l 0], none, 0⟩,
  ⟨3, .N (.bin .lss), [.l 2, .l 0], none, 0⟩]
def r115_22 (φ : Nat → Nat) : List AOper := [
  ⟨0, .N .mv, [.n 11], none, 0⟩,
  ⟨1, .N .mv, [.n 13], none, 0⟩,
  ⟨2, .N .mv, [.n 1], none, 0⟩,
  ⟨3, .N (.idx 1), [.l 2, .l 1], none, 0⟩,
  ⟨4, .X (.store 1), [.l 0, .l 1], none, 0⟩]
def r115_23 (φ : Nat → Nat) : List AOper := [
  ⟨0, .N .mv, [.n 13], none, 0⟩,
  ⟨1, .N (.bin .add), [.l 0, .c (.int .i64 1)], none, 0⟩,
  ⟨2, .N .mv, [.l 0], none, 0⟩]
def l115_24 (φ : Nat → Nat) : ACode := .seq (.seq (.reg false (r115_21 φ) [(16, 0)]) (.cond (.n 16) (.skip) (.exit 4))) (.seq (.block 5 (.reg false (r115_22 φ) [])) (.reg false (r115_23 φ) [(13, 0)]))
def r115_25 (φ : Nat → Nat) : List AOper := [
  ⟨0, .N .mv, [.n 3], none, 0⟩,
  ⟨1, .N .mv, [.l 0], none, 0⟩,
  ⟨2, .N .mv, [.n 7], some (.l 0, true), 0⟩,
  ⟨3, .N (.bin .eql), [.l 0, .c (.int .i64 0)], some (.l 1, true), 0⟩,
  ⟨4, .N .pick, [.l 2, .l 0, .c (.bool false)], none, 0⟩,
  ⟨5, .N .mv, [.l 0], none, 0⟩,
  ⟨6, .N .mv, [.n 12], some (.l 0, true), 0⟩,
  ⟨7, .N .pick, [.l 1, .l 0, .c (.bool false)], none, 0⟩,
  ⟨8, .N .mv, [.l 0], none, 0⟩,
  ⟨9, .N .mv, [.n 6], some (.l 0, true), 0⟩,
  ⟨10, .call (φ 99), [.l 0], some (.l 1, true), 0⟩,
  ⟨11, .N .mv, [.n 5], some (.l 2, true), 0⟩,
  ⟨12, .calli true (φ 11), [.l 1, .l 0], some (.l 3, true), 0⟩,
  ⟨13, .N .pick, [.l 4, .l 0, .c (.bool false)], none, 0⟩,
  ⟨14, .N .mv, [.l 0], none, 0⟩]
def b115 (φ : Nat → Nat) : ACode := .seq (.reg false (r115_0 φ) [(2, 0)]) (.seq (.reg false (r115_1 φ) [(3, 0)]) (.seq (.reg false (r115_2 φ) [(0, 0)]) (.seq (.reg false (r115_3 φ) [(4, 0)]) (.seq (.reg false (r115_4 φ) [(4, 0)]) (.seq (.reg false (r115_5 φ) [(4, 0)]) (.seq (.reg false (r115_6 φ) [(5, 0)]) (.seq (.reg false (r115_7 φ) [(6, 1), (7, 0)]) (.seq (.seq (.reg false (r115_8 φ) [(8, 0)]) (.block 0 (.loop (l115_12 φ)))) (.seq (.reg false (r115_13 φ) [(9, 0)]) (.seq (.seq (.reg false (r115_14 φ) [(10, 0)]) (.block 2 (.loop (l115_18 φ)))) (.seq (.reg false (r115_19 φ) [(11, 1), (12, 0)]) (.seq (.seq (.reg false (r115_20 φ) [(13, 0)]) (.block 4 (.loop (l115_24 φ)))) (.seq (.reg false (r115_25 φ) [(2, 0)]) (.ret))))))))))))))
def f115 (φ : Nat → Nat) : AFn := ⟨2, [0, 1, 4, 5, 6, 7, 8, 9, 10, 11, 12, 13, 14, 15, 47, 59, 74], 95, b115 φ, [.t 2]⟩
end Go.Ai.G
/- Functions of the program (package carcanetref03) as code of the abstract machine: written by a program of this session out of the elaborated operations. -/
namespace Go.Ai.G
set_option maxRecDepth 100000
set_option linter.unusedVariables false
/-! 2: carcanet/carcanetref03.Normal: 0:n 1:l 2: 3: 4:up 5:i 6:a 7:b 8:lo 9:g 10:a 11:row 12:i 13: 14: 15: 16: 17: 18: 19: 20: -/
/-! 3: carcanet/carcanetref03.SameGraph: 0:a 1:b 2:a 3:b 4: -/
/-! 6: carcanet/carcanetref03.Right: 0:g 1:g 2: 3:i 4:x 5: 6: 7: 8: -/
/-! 8: carcanet/carcanetref03.Has: 0:g 1:a 2:b 3:g 4: 5:i 6: 7: 8: -/
/-! 10: carcanet/carcanetref03.Near: 0:g 1:v 2:g 3: 4:out 5:i 6: 7: 8: 9: -/
/-! 11: carcanet/carcanetref03.Same: 0:a 1:b 2: 3:i 4: 5: 6: -/
def r11_0 (φ : Nat → Nat) : List AOper := [
  ⟨0, .N .mv, [.c (.bool false)], none, 0⟩]
def r11_1 (φ : Nat → Nat) : List AOper := [
  ⟨0, .N .mv, [.n 0], none, 0⟩,
  ⟨1, .N .lenS, [.l 0], none, 0⟩,
  ⟨2, .N .mv, [.n 1], none, 0⟩,
  ⟨3, .N .lenS, [.l 0], none, 0⟩,
  ⟨4, .N (.bin .neq), [.l 2, .l 0], none, 0⟩]
def r11_2 (φ : Nat → Nat) : List AOper := [
  ⟨0, .N .mv, [.c (.bool false)], none, 0⟩]
def r11_3 (φ : Nat → Nat) : List AOper := [
  ⟨0, .N .mv, [.c (.int .i64 0)], none, 0⟩]
def r11_4 (φ : Nat → Nat) : List AOper := [
  ⟨0, .N .mv, [.n 3], none, 0⟩,
  ⟨1, .N .mv, [.n 0], none, 0⟩,
  ⟨2, .N .lenS, [.l 0], none, 0⟩,
  ⟨3, .N (.bin .lss), [.l 2, .l 0], none, 0⟩]
def r11_5 (φ : Nat → Nat) : List AOper := [
  ⟨0, .N .mv, [.n 0], none, 0⟩,
  ⟨1, .N .mv, [.n 3], none, 0⟩,
  ⟨2, .N (.idx 1), [.l 1, .l 0], none, 3⟩,
  ⟨3, .N .load1, [.l 0], none, 7⟩,
  ⟨4, .N .mv, [.n 1], none, 0⟩,
  ⟨5, .N .mv, [.n 3], none, 0⟩,
  ⟨6, .N (.idx 1), [.l 1, .l 0], none, 48⟩,
  ⟨7, .N .load1, [.l 0], none, 112⟩,
  ⟨8, .N (.bin .neq), [.l 4, .l 0], none, 255⟩]
def r11_6 (φ : Nat → Nat) : List AOper := [
  ⟨0, .N .mv, [.c (.bool false)], none, 0⟩]
def r11_7 (φ : Nat → Nat) : List AOper := [
  ⟨0, .N .mv, [.n 3], none, 0⟩,
  ⟨1, .N (.bin .add), [.l 0, .c (.int .i64 1)], none, 0⟩,
  ⟨2, .N .mv, [.l 0], none, 0⟩]
def l11_8 (φ : Nat → Nat) : ACode := .seq (.seq (.reg false (r11_4 φ) [(5, 0)]) (.cond (.n 5) (.skip) (.exit 0))) (.seq (.block 1 (.seq (.reg true (r11_5 φ) [(6, 0)]) (.cond (.n 6) (.seq (.reg false (r11_6 φ) [(2, 0)]) (.ret)) (.skip)))) (.reg false (r11_7 φ) [(3, 0)]))
def r11_9 (φ : Nat → Nat) : List AOper := [
  ⟨0, .N .mv, [.c (.bool true)], none, 0⟩]
def b11 (φ : Nat → Nat) : ACode := .seq (.reg false (r11_0 φ) [(2, 0)]) (.seq (.seq (.reg false (r11_1 φ) [(4, 0)]) (.cond (.n 4) (.seq (.reg false (r11_2 φ) [(2, 0)]) (.ret)) (.skip))) (.seq (.seq (.reg false (r11_3 φ) [(3, 0)]) (.block 0 (.loop (l11_8 φ)))) (.seq (.reg false (r11_9 φ) [(2, 0)]) (.ret))))
def f11 (φ : Nat → Nat) : AFn := ⟨2, [0, 1, 4, 5, 10, 14, 25], 26, b11 φ, [.t 2]⟩
/-! 13: carcanet/carcanetref03.Degrees: 0:g 1:g 2: 3:out 4:v 5: 6: -/
/-! 16: carcanet/carcanetref03.Add: 0:g 1:a 2:b 3:g 4: 5: 6: 7: 8: -/
/-! 18: carcanet/carcanetref03.Without: 0:g 1:a 2:b 3:g 4: 5: 6:out 7:i 8: 9: 10: 11: -/
/-! 22: carcanet/carcanetref03.Any: 0:n 1:l 2:most 3: 4:all 5:i 6:g 7: -/
/-! 23: carcanet/carcanetref03.SameEdges: 0:a 1:b 2: 3:i 4: 5: 6: -/
/-! 25: carcanet/carcanetref03.In: 0:l 1:x 2: 3:i 4: 5: -/
/-! 30: carcanet/carcanetref03.Sorted: 0:l 1: 2:out 3:i 4:at 5: 6: -/
/-! 39: carcanet/carcanetref03.Of: 0:x 1:most 2:x 3: -/
/-! 70: carcanet/carcanetref03.SameRows: 0:a 1:b 2: 3:i 4: 5: 6: -/
def r70_0 (φ : Nat → Nat) : List AOper := [
  ⟨0, .N .mv, [.c (.bool false)], none, 0⟩]
def r70_1 (φ : Nat → Nat) : List AOper := [
  ⟨0, .N .mv, [.n 0], none, 0⟩,
  ⟨1, .N .lenS, [.l 0], none, 0⟩,
  ⟨2, .N .mv, [.n 1], none, 0⟩,
  ⟨3, .N .lenS, [.l 0], none, 0⟩,
  ⟨4, .N (.bin .neq), [.l 2, .l 0], none, 0⟩]
def r70_2 (φ : Nat → Nat) : List AOper := [
  ⟨0, .N .mv, [.c (.bool false)], none, 0⟩]
def r70_3 (φ : Nat → Nat) : List AOper := [
  ⟨0, .N .mv, [.c (.int .i64 0)], none, 0⟩]
def r70_4 (φ : Nat → Nat) : List AOper := [
  ⟨0, .N .mv, [.n 3], none, 0⟩,
  ⟨1, .N .mv, [.n 0], none, 0⟩,
  ⟨2, .N .lenS, [.l 0], none, 0⟩,
  ⟨3, .N (.bin .lss), [.l 2, .l 0], none, 0⟩]
def r70_5 (φ : Nat → Nat) : List AOper := [
  ⟨0, .N .mv, [.n 0], none, 0⟩,
  ⟨1, .N .mv, [.n 3], none, 0⟩,
  ⟨2, .N (.idx 1), [.l 1, .l 0], none, 3⟩,
  ⟨3, .N .load1, [.l 0], none, 7⟩,
  ⟨4, .N .mv, [.n 1], none, 0⟩,
  ⟨5, .N .mv, [.n 3], none, 0⟩,
  ⟨6, .N (.idx 1), [.l 1, .l 0], none, 48⟩,
  ⟨7, .N .load1, [.l 0], none, 112⟩,
  ⟨8, .calli true (φ 11), [.l 4, .l 0], none, 255⟩,
  ⟨9, .N (.un .not), [.l 0], none, 511⟩]
def r70_6 (φ : Nat → Nat) : List AOper := [
  ⟨0, .N .mv, [.c (.bool false)], none, 0⟩]
def r70_7 (φ : Nat → Nat) : List AOper := [
  ⟨0, .N .mv, [.n 3], none, 0⟩,
  ⟨1, .N (.bin .add), [.l 0, .c (.int .i64 1)], none, 0⟩,
  ⟨2, .N .mv, [.l 0], none, 0⟩]
def l70_8 (φ : Nat → Nat) : ACode := .seq (.seq (.reg false (r70_4 φ) [(5, 0)]) (.cond (.n 5) (.skip) (.exit 0))) (.seq (.block 1 (.seq (.reg true (r70_5 φ) [(6, 0)]) (.cond (.n 6) (.seq (.reg false (r70_6 φ) [(2, 0)]) (.ret)) (.skip)))) (.reg false (r70_7 φ) [(3, 0)]))
def r70_9 (φ : Nat → Nat) : List AOper := [
  ⟨0, .N .mv, [.c (.bool true)], none, 0⟩]
def b70 (φ : Nat → Nat) : ACode := .seq (.reg false (r70_0 φ) [(2, 0)]) (.seq (.seq (.reg false (r70_1 φ) [(4, 0)]) (.cond (.n 4) (.seq (.reg false (r70_2 φ) [(2, 0)]) (.ret)) (.skip))) (.seq (.seq (.reg false (r70_3 φ) [(3, 0)]) (.block 0 (.loop (l70_8 φ)))) (.seq (.reg false (r70_9 φ) [(2, 0)]) (.ret))))
def f70 (φ : Nat → Nat) : AFn := ⟨2, [0, 1, 4, 5, 10, 14, 26], 27, b70 φ, [.t 2]⟩
end Go.Ai.G
/- Functions of the program (package carcanetref09) as code of the abstract machine: written by a program of this session out of the elaborated operations. -/
namespace Go.Ai.G
set_option maxRecDepth 100000
set_option linter.unusedVariables false
/-! 106: carcanet/carcanetref09.Same: 0:a 1:b 2:a 3:b 4: -/
def r106_0 (φ : Nat → Nat) : List AOper := [
  ⟨0, .N .box, [.n 0], none, 0⟩,
  ⟨1, .N .box, [.n 1], none, 0⟩,
  ⟨2, .N .mv, [.c (.bool false)], none, 0⟩]
def r106_1 (φ : Nat → Nat) : List AOper := [
  ⟨0, .N (.fadd 0), [.n 2], none, 0⟩,
  ⟨1, .N .load1, [.l 0], none, 0⟩,
  ⟨2, .N (.fadd 0), [.n 3], none, 0⟩,
  ⟨3, .N .load1, [.l 0], none, 0⟩,
  ⟨4, .N (.bin .eql), [.l 2, .l 0], none, 0⟩,
  ⟨5, .N .mv, [.l 0], none, 0⟩,
  ⟨6, .N (.fadd 1), [.n 2], some (.l 0, true), 0⟩,
  ⟨7, .N .load1, [.l 0], some (.l 1, true), 0⟩,
  ⟨8, .N (.fadd 1), [.n 3], some (.l 2, true), 0⟩,
  ⟨9, .N .load1, [.l 0], some (.l 3, true), 0⟩,
  ⟨10, .calli true (φ 11), [.l 2, .l 0], some (.l 4, true), 0⟩,
  ⟨11, .N .pick, [.l 5, .l 0, .c (.bool false)], none, 0⟩,
  ⟨12, .N .mv, [.l 0], none, 0⟩,
  ⟨13, .N (.fadd 2), [.n 2], some (.l 0, true), 0⟩,
  ⟨14, .N .load1, [.l 0], some (.l 1, true), 0⟩,
  ⟨15, .N (.fadd 2), [.n 3], some (.l 2, true), 0⟩,
  ⟨16, .N .load1, [.l 0], some (.l 3, true), 0⟩,
  ⟨17, .calli true (φ 70), [.l 2, .l 0], some (.l 4, true), 0⟩,
  ⟨18, .N .pick, [.l 5, .l 0, .c (.bool false)], none, 0⟩,
  ⟨19, .N .mv, [.l 0], none, 0⟩]
def b106 (φ : Nat → Nat) : ACode := .seq (.reg false (r106_0 φ) [(2, 2), (3, 1), (4, 0)]) (.seq (.reg false (r106_1 φ) [(4, 0)]) (.ret))
def f106 (φ : Nat → Nat) : AFn := ⟨2, [0, 1, 2, 3, 4], 24, b106 φ, [.t 4]⟩
end Go.Ai.G
/- Functions of the program (package carcanetref22) as code of the abstract machine: written by a program of this session out of the elaborated operations. -/
namespace Go.Ai.G
set_option maxRecDepth 100000
set_option linter.unusedVariables false
/-! 86: carcanet/carcanetref22.Is: 0:l 1: 2:end 3: 4: 5: 6: 7: 8: 9: -/
def r86_0 (φ : Nat → Nat) : List AOper := [
  ⟨0, .N .mv, [.c (.bool false)], none, 0⟩]
def r86_1 (φ : Nat → Nat) : List AOper := [
  ⟨0, .N .mv, [.n 0], none, 0⟩,
  ⟨1, .N .lenS, [.l 0], none, 0⟩,
  ⟨2, .N (.bin .eql), [.l 0, .c (.int .i64 0)], none, 0⟩]
def r86_2 (φ : Nat → Nat) : List AOper := [
  ⟨0, .N .mv, [.c (.bool false)], none, 0⟩]
def r86_3 (φ : Nat → Nat) : List AOper := [
  ⟨0, .N .mv, [.c (.int .i64 (-1))], none, 0⟩]
def r86_4 (φ : Nat → Nat) : List AOper := [
  ⟨0, .N .mv, [.n 0], none, 0⟩,
  ⟨1, .N (.idx 1), [.l 0, .c (.int .i64 0)], none, 0⟩,
  ⟨2, .N .load1, [.l 0], none, 0⟩,
  ⟨3, .N (.bin .eql), [.l 0, .c (.int .i64 1)], none, 0⟩]
def r86_5 (φ : Nat → Nat) : List AOper := [
  ⟨0, .N .mv, [.n 0], none, 0⟩,
  ⟨1, .N .mv, [.n 0], none, 0⟩,
  ⟨2, .calli true (φ 116), [.l 0, .c (.int .i64 1)], none, 0⟩,
  ⟨3, .calli true (φ 117), [.l 2, .l 0], none, 0⟩,
  ⟨4, .N .mv, [.l 0], none, 0⟩]
def r86_6 (φ : Nat → Nat) : List AOper := [
  ⟨0, .N .mv, [.n 0], none, 0⟩,
  ⟨1, .N (.idx 1), [.l 0, .c (.int .i64 0)], none, 0⟩,
  ⟨2, .N .load1, [.l 0], none, 0⟩,
  ⟨3, .N (.bin .eql), [.l 0, .c (.int .i64 2)], none, 0⟩]
def r86_7 (φ : Nat → Nat) : List AOper := [
  ⟨0, .N .mv, [.n 0], none, 0⟩,
  ⟨1, .N .mv, [.n 0], none, 0⟩,
  ⟨2, .N .mv, [.n 0], none, 0⟩,
  ⟨3, .calli true (φ 117), [.l 0, .c (.int .i64 1)], none, 0⟩,
  ⟨4, .calli true (φ 116), [.l 2, .l 0], none, 0⟩,
  ⟨5, .calli true (φ 118), [.l 4, .l 0], none, 0⟩,
  ⟨6, .N .mv, [.l 0], none, 0⟩]
def r86_8 (φ : Nat → Nat) : List AOper := [
  ⟨0, .N .mv, [.n 0], none, 0⟩,
  ⟨1, .N (.idx 1), [.l 0, .c (.int .i64 0)], none, 0⟩,
  ⟨2, .N .load1, [.l 0], none, 0⟩,
  ⟨3, .N (.bin .eql), [.l 0, .c (.int .i64 3)], none, 0⟩]
def r86_9 (φ : Nat → Nat) : List AOper := [
  ⟨0, .N .mv, [.n 0], none, 0⟩,
  ⟨1, .calli true (φ 116), [.l 0, .c (.int .i64 1)], none, 0⟩,
  ⟨2, .N .mv, [.l 0], none, 0⟩]
def r86_10 (φ : Nat → Nat) : List AOper := [
  ⟨0, .N .mv, [.n 0], none, 0⟩,
  ⟨1, .N (.idx 1), [.l 0, .c (.int .i64 0)], none, 0⟩,
  ⟨2, .N .load1, [.l 0], none, 0⟩,
  ⟨3, .N (.bin .eql), [.l 0, .c (.int .i64 4)], none, 0⟩]
def r86_11 (φ : Nat → Nat) : List AOper := [
  ⟨0, .N .mv, [.n 0], none, 0⟩,
  ⟨1, .N .mv, [.n 0], none, 0⟩,
  ⟨2, .calli true (φ 116), [.l 0, .c (.int .i64 2)], none, 0⟩,
  ⟨3, .calli true (φ 117), [.l 2, .l 0], none, 0⟩,
  ⟨4, .N .mv, [.l 0], none, 0⟩]
def r86_12 (φ : Nat → Nat) : List AOper := [
  ⟨0, .N .mv, [.n 0], none, 0⟩,
  ⟨1, .N (.idx 1), [.l 0, .c (.int .i64 0)], none, 0⟩,
  ⟨2, .N .load1, [.l 0], none, 0⟩,
  ⟨3, .N (.bin .eql), [.l 0, .c (.int .i64 5)], none, 0⟩]
def r86_13 (φ : Nat → Nat) : List AOper := [
  ⟨0, .N .mv, [.n 0], none, 0⟩,
  ⟨1, .calli true (φ 116), [.l 0, .c (.int .i64 3)], none, 0⟩,
  ⟨2, .N .mv, [.l 0], none, 0⟩]
def r86_14 (φ : Nat → Nat) : List AOper := [
  ⟨0, .N .mv, [.n 0], none, 0⟩,
  ⟨1, .N (.idx 1), [.l 0, .c (.int .i64 0)], none, 0⟩,
  ⟨2, .N .load1, [.l 0], none, 0⟩,
  ⟨3, .N (.bin .eql), [.l 0, .c (.int .i64 6)], none, 0⟩]
def r86_15 (φ : Nat → Nat) : List AOper := [
  ⟨0, .N .mv, [.n 0], none, 0⟩,
  ⟨1, .calli true (φ 119), [.l 0, .c (.int .i64 2), .c (.int .i64 6)], none, 0⟩,
  ⟨2, .N .mv, [.l 0], none, 0⟩]
def r86_16 (φ : Nat → Nat) : List AOper := [
  ⟨0, .N .mv, [.n 2], none, 0⟩,
  ⟨1, .N .mv, [.n 0], none, 0⟩,
  ⟨2, .N .lenS, [.l 0], none, 0⟩,
  ⟨3, .N (.bin .eql), [.l 2, .l 0], none, 0⟩,
  ⟨4, .N .mv, [.l 0], none, 0⟩]
def b86 (φ : Nat → Nat) : ACode := .seq (.reg false (r86_0 φ) [(1, 0)]) (.seq (.seq (.reg false (r86_1 φ) [(3, 0)]) (.cond (.n 3) (.seq (.reg false (r86_2 φ) [(1, 0)]) (.ret)) (.skip))) (.seq (.reg false (r86_3 φ) [(2, 0)]) (.seq (.seq (.reg false (r86_4 φ) [(4, 0)]) (.cond (.n 4) (.reg false (r86_5 φ) [(2, 0)]) (.skip))) (.seq (.seq (.reg false (r86_6 φ) [(5, 0)]) (.cond (.n 5) (.reg false (r86_7 φ) [(2, 0)]) (.skip))) (.seq (.seq (.reg false (r86_8 φ) [(6, 0)]) (.cond (.n 6) (.reg false (r86_9 φ) [(2, 0)]) (.skip))) (.seq (.seq (.reg false (r86_10 φ) [(7, 0)]) (.cond (.n 7) (.reg false (r86_11 φ) [(2, 0)]) (.skip))) (.seq (.seq (.reg false (r86_12 φ) [(8, 0)]) (.cond (.n 8) (.reg false (r86_13 φ) [(2, 0)]) (.skip))) (.seq (.seq (.reg false (r86_14 φ) [(9, 0)]) (.cond (.n 9) (.reg false (r86_15 φ) [(2, 0)]) (.skip))) (.seq (.reg false (r86_16 φ) [(1, 0)]) (.ret))))))))))
def f86 (φ : Nat → Nat) : AFn := ⟨1, [0, 2, 3, 6, 10, 18, 28, 34, 42, 48], 55, b86 φ, [.t 1]⟩
/-! 101: carcanet/carcanetref22.PutRow: 0:l 1: -/
def r101_0 (φ : Nat → Nat) : List AOper := [
  ⟨0, .N .mv, [.c (.nils)], none, 0⟩]
def r101_1 (φ : Nat → Nat) : List AOper := [
  ⟨0, .N .mv, [.n 0], none, 0⟩,
  ⟨1, .N .lenS, [.l 0], none, 0⟩,
  ⟨2, .N (.bsl [.int .i64 0] 1 1 [(0, 1)]), [.l 0], none, 0⟩,
  ⟨3, .N .mv, [.n 0], none, 0⟩,
  ⟨4, .X (.app 1 8), [.l 1, .l 0], none, 0⟩,
  ⟨5, .N .mv, [.l 0], none, 0⟩]
def b101 (φ : Nat → Nat) : ACode := .seq (.reg false (r101_0 φ) [(1, 0)]) (.seq (.reg false (r101_1 φ) [(1, 0)]) (.ret))
def f101 (φ : Nat → Nat) : AFn := ⟨1, [0, 2], 8, b101 φ, [.t 1]⟩
/-! 102: carcanet/carcanetref22.PutRows: 0:all 1: 2:out 3:i 4: -/
def r102_0 (φ : Nat → Nat) : List AOper := [
  ⟨0, .N .mv, [.c (.nils)], none, 0⟩]
def r102_1 (φ : Nat → Nat) : List AOper := [
  ⟨0, .N .mv, [.n 0], none, 0⟩,
  ⟨1, .N .lenS, [.l 0], none, 0⟩,
  ⟨2, .N (.bsl [.int .i64 0] 1 1 [(0, 1)]), [.l 0], none, 0⟩,
  ⟨3, .N .mv, [.l 0], none, 0⟩]
def r102_2 (φ : Nat → Nat) : List AOper := [
  ⟨0, .N .mv, [.c (.int .i64 0)], none, 0⟩]
def r102_3 (φ : Nat → Nat) : List AOper := [
  ⟨0, .N .mv, [.n 3], none, 0⟩,
  ⟨1, .N .mv, [.n 0], none, 0⟩,
  ⟨2, .N .lenS, [.l 0], none, 0⟩,
  ⟨3, .N (.bin .lss), [.l 2, .l 0], none, 0⟩]
def r102_4 (φ : Nat → Nat) : List AOper := [
  ⟨0, .N .mv, [.n 2], none, 0⟩,
  ⟨1, .N .mv, [.n 0], none, 0⟩,
  ⟨2, .N .mv, [.n 3], none, 0⟩,
  ⟨3, .N (.idx 1), [.l 1, .l 0], none, 0⟩,
  ⟨4, .N .load1, [.l 0], none, 0⟩,
  ⟨5, .calli false (φ 101), [.l 0], none, 0⟩,
  ⟨6, .X (.app 1 8), [.l 5, .l 0], none, 0⟩,
  ⟨7, .N .mv, [.l 0], none, 0⟩]
def r102_5 (φ : Nat → Nat) : List AOper := [
  ⟨0, .N .mv, [.n 3], none, 0⟩,
  ⟨1, .N (.bin .add), [.l 0, .c (.int .i64 1)], none, 0⟩,
  ⟨2, .N .mv, [.l 0], none, 0⟩]
def l102_6 (φ : Nat → Nat) : ACode := .seq (.seq (.reg false (r102_3 φ) [(4, 0)]) (.cond (.n 4) (.skip) (.exit 0))) (.seq (.block 1 (.reg false (r102_4 φ) [(2, 0)])) (.reg false (r102_5 φ) [(3, 0)]))
def r102_7 (φ : Nat → Nat) : List AOper := [
  ⟨0, .N .mv, [.n 2], none, 0⟩,
  ⟨1, .N .mv, [.l 0], none, 0⟩]
def b102 (φ : Nat → Nat) : ACode := .seq (.reg false (r102_0 φ) [(1, 0)]) (.seq (.reg false (r102_1 φ) [(2, 0)]) (.seq (.seq (.reg false (r102_2 φ) [(3, 0)]) (.block 0 (.loop (l102_6 φ)))) (.seq (.reg false (r102_7 φ) [(1, 0)]) (.ret))))
def f102 (φ : Nat → Nat) : AFn := ⟨1, [0, 2, 3, 4, 11], 22, b102 φ, [.t 1]⟩
/-! 108: carcanet/carcanetref22.PutTrees: 0:all 1: 2:out 3:i 4:k 5:n 6: 7: -/
def r108_0 (φ : Nat → Nat) : List AOper := [
  ⟨0, .N .mv, [.c (.nils)], none, 0⟩]
def r108_1 (φ : Nat → Nat) : List AOper := [
  ⟨0, .N .mv, [.n 0], none, 0⟩,
  ⟨1, .N .lenS, [.l 0], none, 0⟩,
  ⟨2, .N (.bsl [.int .i64 0] 1 1 [(0, 1)]), [.l 0], none, 0⟩,
  ⟨3, .N .mv, [.l 0], none, 0⟩]
def r108_2 (φ : Nat → Nat) : List AOper := [
  ⟨0, .N .mv, [.c (.int .i64 0)], none, 0⟩]
def r108_3 (φ : Nat → Nat) : List AOper := [
  ⟨0, .N .mv, [.n 3], none, 0⟩,
  ⟨1, .N .mv, [.n 0], none, 0⟩,
  ⟨2, .N .lenS, [.l 0], none, 0⟩,
  ⟨3, .N (.bin .lss), [.l 2, .l 0], none, 0⟩]
def r108_4 (φ : Nat → Nat) : List AOper := [
  ⟨0, .N .mv, [.n 2], none, 0⟩,
  ⟨1, .N .mv, [.n 0], none, 0⟩,
  ⟨2, .N .mv, [.n 3], none, 0⟩,
  ⟨3, .N (.idx 1), [.l 1, .l 0], none, 0⟩,
  ⟨4, .N .load1, [.l 0], none, 0⟩,
  ⟨5, .N .lenS, [.l 0], none, 0⟩,
  ⟨6, .N (.bsl [.int .i64 0] 1 1 [(0, 1)]), [.l 0], none, 0⟩,
  ⟨7, .X (.app 1 8), [.l 6, .l 0], none, 0⟩,
  ⟨8, .N .mv, [.l 0], none, 0⟩]
def r108_5 (φ : Nat → Nat) : List AOper := [
  ⟨0, .N .mv, [.c (.int .i64 0)], none, 0⟩]
def r108_6 (φ : Nat → Nat) : List AOper := [
  ⟨0, .N .mv, [.n 4], none, 0⟩,
  ⟨1, .N .mv, [.n 0], none, 0⟩,
  ⟨2, .N .mv, [.n 3], none, 0⟩,
  ⟨3, .N (.idx 1), [.l 1, .l 0], none, 0⟩,
  ⟨4, .N .load1, [.l 0], none, 0⟩,
  ⟨5, .N .lenS, [.l 0], none, 0⟩,
  ⟨6, .N (.bin .lss), [.l 5, .l 0], none, 0⟩]
def r108_7 (φ : Nat → Nat) : List AOper := [
  ⟨0, .N .mv, [.n 0], none, 0⟩,
  ⟨1, .N .mv, [.n 3], none, 0⟩,
  ⟨2, .N (.idx 1), [.l 1, .l 0], none, 0⟩,
  ⟨3, .N .load1, [.l 0], none, 0⟩,
  ⟨4, .N .mv, [.n 4], none, 0⟩,
  ⟨5, .N (.idx 3), [.l 1, .l 0], none, 0⟩,
  ⟨6, .N (.loadN 3), [.l 0], none, 0⟩,
  ⟨7, .N (.alloc [.int .i64 0, .int .i64 0, .int .i64 0]), [], none, 0⟩,
  ⟨8, .X (.store 3), [.l 0, .l 1], none, 0⟩]
def r108_8 (φ : Nat → Nat) : List AOper := [
  ⟨0, .N .mv, [.n 2], none, 0⟩,
  ⟨1, .N (.fadd 0), [.n 5], none, 0⟩,
  ⟨2, .N .load1, [.l 0], none, 0⟩,
  ⟨3, .N (.fadd 1), [.n 5], none, 0⟩,
  ⟨4, .N .load1, [.l 0], none, 0⟩,
  ⟨5, .N (.fadd 2), [.n 5], none, 0⟩,
  ⟨6, .N .load1, [.l 0], none, 0⟩,
  ⟨7, .N (.bsl [.int .i64 0] 3 1 [(0, 1), (1, 1), (2, 1)]), [.l 4, .l 2, .l 0], none, 0⟩,
  ⟨8, .X (.app 1 8), [.l 7, .l 0], none, 0⟩,
  ⟨9, .N .mv, [.l 0], none, 0⟩]
def r108_9 (φ : Nat → Nat) : List AOper := [
  ⟨0, .N .mv, [.n 4], none, 0⟩,
  ⟨1, .N (.bin .add), [.l 0, .c (.int .i64 1)], none, 0⟩,
  ⟨2, .N .mv, [.l 0], none, 0⟩]
def l108_10 (φ : Nat → Nat) : ACode := .seq (.seq (.reg false (r108_6 φ) [(7, 0)]) (.cond (.n 7) (.skip) (.exit 2))) (.seq (.block 3 (.seq (.reg false (r108_7 φ) [(5, 1)]) (.reg false (r108_8 φ) [(2, 0)]))) (.reg false (r108_9 φ) [(4, 0)]))
def r108_11 (φ : Nat → Nat) : List AOper := [
  ⟨0, .N .mv, [.n 3], none, 0⟩,
  ⟨1, .N (.bin .add), [.l 0, .c (.int .i64 1)], none, 0⟩,
  ⟨2, .N .mv, [.l 0], none, 0⟩]
def l108_12 (φ : Nat → Nat) : ACode := .seq (.seq (.reg false (r108_3 φ) [(6, 0)]) (.cond (.n 6) (.skip) (.exit 0))) (.seq (.block 1 (.seq (.reg false (r108_4 φ) [(2, 0)]) (.seq (.reg false (r108_5 φ) [(4, 0)]) (.block 2 (.loop (l108_10 φ)))))) (.reg false (r108_11 φ) [(3, 0)]))
def r108_13 (φ : Nat → Nat) : List AOper := [
  ⟨0, .N .mv, [.n 2], none, 0⟩,
  ⟨1, .N .mv, [.l 0], none, 0⟩]
def b108 (φ : Nat → Nat) : ACode := .seq (.reg false (r108_0 φ) [(1, 0)]) (.seq (.reg false (r108_1 φ) [(2, 0)]) (.seq (.seq (.reg false (r108_2 φ) [(3, 0)]) (.block 0 (.loop (l108_12 φ)))) (.seq (.reg false (r108_13 φ) [(1, 0)]) (.ret))))
def f108 (φ : Nat → Nat) : AFn := ⟨1, [0, 2, 3, 4, 5, 6, 13, 30], 50, b108 φ, [.t 1]⟩
/-! 109: carcanet/carcanetref22.PutCuts: 0:all 1: 2:out 3:i 4:c 5: -/
def r109_0 (φ : Nat → Nat) : List AOper := [
  ⟨0, .N .mv, [.c (.nils)], none, 0⟩]
def r109_1 (φ : Nat → Nat) : List AOper := [
  ⟨0, .N .mv, [.n 0], none, 0⟩,
  ⟨1, .N .lenS, [.l 0], none, 0⟩,
  ⟨2, .N (.bsl [.int .i64 0] 1 1 [(0, 1)]), [.l 0], none, 0⟩,
  ⟨3, .N .mv, [.l 0], none, 0⟩]
def r109_2 (φ : Nat → Nat) : List AOper := [
  ⟨0, .N .mv, [.c (.int .i64 0)], none, 0⟩]
def r109_3 (φ : Nat → Nat) : List AOper := [
  ⟨0, .N .mv, [.n 3], none, 0⟩,
  ⟨1, .N .mv, [.n 0], none, 0⟩,
  ⟨2, .N .lenS, [.l 0], none, 0⟩,
  ⟨3, .N (.bin .lss), [.l 2, .l 0], none, 0⟩]
def r109_4 (φ : Nat → Nat) : List AOper := [
  ⟨0, .N .mv, [.n 0], none, 0⟩,
  ⟨1, .N .mv, [.n 3], none, 0⟩,
  ⟨2, .N (.idx 6), [.l 1, .l 0], none, 0⟩,
  ⟨3, .N (.loadN 6), [.l 0], none, 0⟩,
  ⟨4, .N (.alloc [.int .i64 0, .int .i64 0, .int .i64 0, .int .i64 0, .int .i64 0, .int .i64 0]), [], none, 0⟩,
  ⟨5, .X (.store 6), [.l 0, .l 1], none, 0⟩]
def r109_5 (φ : Nat → Nat) : List AOper := [
  ⟨0, .N .mv, [.n 2], none, 0⟩,
  ⟨1, .N (.fadd 0), [.n 4], none, 0⟩,
  ⟨2, .N .load1, [.l 0], none, 0⟩,
  ⟨3, .N (.fadd 1), [.n 4], none, 0⟩,
  ⟨4, .N .load1, [.l 0], none, 0⟩,
  ⟨5, .N (.fadd 2), [.n 4], none, 0⟩,
  ⟨6, .N .load1, [.l 0], none, 0⟩,
  ⟨7, .N (.fadd 3), [.n 4], none, 0⟩,
  ⟨8, .N .load1, [.l 0], none, 0⟩,
  ⟨9, .N (.fadd 4), [.n 4], none, 0⟩,
  ⟨10, .N .load1, [.l 0], none, 0⟩,
  ⟨11, .N (.fadd 5), [.n 4], none, 0⟩,
  ⟨12, .N .load1, [.l 0], none, 0⟩,
  ⟨13, .N (.bsl [.int .i64 0] 6 1 [(0, 1), (1, 1), (2, 1), (3, 1), (4, 1), (5, 1)]), [.l 10, .l 8, .l 6, .l 4, .l 2, .l 0], none, 0⟩,
  ⟨14, .X (.app 1 8), [.l 13, .l 0], none, 0⟩,
  ⟨15, .N .mv, [.l 0], none, 0⟩]
def r109_6 (φ : Nat → Nat) : List AOper := [
  ⟨0, .N .mv, [.n 3], none, 0⟩,
  ⟨1, .N (.bin .add), [.l 0, .c (.int .i64 1)], none, 0⟩,
  ⟨2, .N .mv, [.l 0], none, 0⟩]
def l109_7 (φ : Nat → Nat) : ACode := .seq (.seq (.reg false (r109_3 φ) [(5, 0)]) (.cond (.n 5) (.skip) (.exit 0))) (.seq (.block 1 (.seq (.reg false (r109_4 φ) [(4, 1)]) (.reg false (r109_5 φ) [(2, 0)]))) (.reg false (r109_6 φ) [(3, 0)]))
def r109_8 (φ : Nat → Nat) : List AOper := [
  ⟨0, .N .mv, [.n 2], none, 0⟩,
  ⟨1, .N .mv, [.l 0], none, 0⟩]
def b109 (φ : Nat → Nat) : ACode := .seq (.reg false (r109_0 φ) [(1, 0)]) (.seq (.reg false (r109_1 φ) [(2, 0)]) (.seq (.seq (.reg false (r109_2 φ) [(3, 0)]) (.block 0 (.loop (l109_7 φ)))) (.seq (.reg false (r109_8 φ) [(1, 0)]) (.ret))))
def f109 (φ : Nat → Nat) : AFn := ⟨1, [0, 2, 3, 4, 5, 12], 35, b109 φ, [.t 1]⟩
/-! 112: carcanet/carcanetref22.Row: 0:l 1:at 2: -/
def r112_0 (φ : Nat → Nat) : List AOper := [
  ⟨0, .N .mv, [.c (.nils)], none, 0⟩]
def r112_1 (φ : Nat → Nat) : List AOper := [
  ⟨0, .N (.bsl [.int .i64 0] 0 1 []), [], none, 0⟩,
  ⟨1, .N .mv, [.n 0], none, 0⟩,
  ⟨2, .N .mv, [.n 1], none, 0⟩,
  ⟨3, .N (.bin .add), [.l 0, .c (.int .i64 1)], none, 0⟩,
  ⟨4, .N .mv, [.n 1], none, 0⟩,
  ⟨5, .N (.bin .add), [.l 0, .c (.int .i64 1)], none, 0⟩,
  ⟨6, .N .mv, [.n 0], none, 0⟩,
  ⟨7, .N .mv, [.n 1], none, 0⟩,
  ⟨8, .N (.idx 1), [.l 1, .l 0], none, 0⟩,
  ⟨9, .N .load1, [.l 0], none, 0⟩,
  ⟨10, .N (.bin .add), [.l 4, .l 0], none, 0⟩,
  ⟨11, .N (.slc 1 true true false), [.l 9, .l 7, .l 0], none, 0⟩,
  ⟨12, .X (.app 1 8), [.l 11, .l 0], none, 0⟩,
  ⟨13, .N .mv, [.l 0], none, 0⟩]
def b112 (φ : Nat → Nat) : ACode := .seq (.reg false (r112_0 φ) [(2, 0)]) (.seq (.reg false (r112_1 φ) [(2, 0)]) (.ret))
def f112 (φ : Nat → Nat) : AFn := ⟨2, [0, 1, 4], 18, b112 φ, [.t 2]⟩
/-! 113: carcanet/carcanetref22.Sub: 0:l 1: -/
def r113_0 (φ : Nat → Nat) : List AOper := [
  ⟨0, .N (.alloc [.int .i64 0, .nils, .nils]), [], none, 0⟩]
def r113_1 (φ : Nat → Nat) : List AOper := [
  ⟨0, .N .mv, [.n 0], none, 0⟩,
  ⟨1, .N (.idx 1), [.l 0, .c (.int .i64 1)], none, 1⟩,
  ⟨2, .N .load1, [.l 0], none, 3⟩,
  ⟨3, .N .mv, [.n 0], none, 0⟩,
  ⟨5, .N .mv, [.n 0], none, 0⟩,
  ⟨6, .N .mv, [.n 0], none, 0⟩,
  ⟨7, .N (.idx 1), [.l 0, .c (.int .i64 2)], none, 32⟩,
  ⟨8, .N .load1, [.l 0], none, 96⟩,
  ⟨9, .N (.bin .add), [.c (.int .i64 3), .l 0], none, 224⟩,
  ⟨4, .calli false (φ 112), [.l 5, .c (.int .i64 2)], none, 8⟩,
  ⟨10, .calli false (φ 123), [.l 5, .l 1], none, 1016⟩,
  ⟨11, .N (.build [.int .i64 0, .nils, .nils] [(0, 1), (1, 1), (2, 1)]), [.l 8, .l 1, .l 0], none, 2047⟩,
  ⟨12, .X (.store 3), [.n 1, .l 0], none, 4095⟩]
def b113 (φ : Nat → Nat) : ACode := .seq (.reg false (r113_0 φ) [(1, 0)]) (.seq (.reg true (r113_1 φ) []) (.ret))
def f113 (φ : Nat → Nat) : AFn := ⟨1, [0, 2], 15, b113 φ, [.cell 1 (some 3)]⟩
/-! 116: carcanet/carcanetref22.row: 0:l 1:at 2: 3: -/
def r116_0 (φ : Nat → Nat) : List AOper := [
  ⟨0, .N .mv, [.c (.int .i64 0)], none, 0⟩]
def r116_1 (φ : Nat → Nat) : List AOper := [
  ⟨0, .N .mv, [.n 1], none, 0⟩,
  ⟨1, .N (.bin .lss), [.l 0, .c (.int .i64 0)], none, 0⟩,
  ⟨2, .N .mv, [.l 0], none, 0⟩,
  ⟨3, .N .mv, [.n 1], some (.l 0, false), 0⟩,
  ⟨4, .N .mv, [.n 0], some (.l 1, false), 0⟩,
  ⟨5, .N .lenS, [.l 0], some (.l 2, false), 0⟩,
  ⟨6, .N (.bin .geq), [.l 2, .l 0], some (.l 3, false), 0⟩,
  ⟨7, .N .pick, [.l 4, .c (.bool true), .l 0], none, 0⟩,
  ⟨8, .N .mv, [.l 0], none, 0⟩,
  ⟨9, .N .mv, [.n 0], some (.l 0, false), 0⟩,
  ⟨10, .N .mv, [.n 1], some (.l 1, false), 0⟩,
  ⟨11, .N (.idx 1), [.l 1, .l 0], some (.l 2, false), 0⟩,
  ⟨12, .N .load1, [.l 0], some (.l 3, false), 0⟩,
  ⟨13, .N (.bin .lss), [.l 0, .c (.int .i64 0)], some (.l 4, false), 0⟩,
  ⟨14, .N .pick, [.l 5, .c (.bool true), .l 0], none, 0⟩,
  ⟨15, .N .mv, [.l 0], none, 0⟩,
  ⟨16, .N .mv, [.n 0], some (.l 0, false), 0⟩,
  ⟨17, .N .mv, [.n 1], some (.l 1, false), 0⟩,
  ⟨18, .N (.idx 1), [.l 1, .l 0], some (.l 2, false), 0⟩,
  ⟨19, .N .load1, [.l 0], some (.l 3, false), 0⟩,
  ⟨20, .N .mv, [.n 0], some (.l 4, false), 0⟩,
  ⟨21, .N .lenS, [.l 0], some (.l 5, false), 0⟩,
  ⟨22, .N .mv, [.n 1], some (.l 6, false), 0⟩,
  ⟨23, .N (.bin .sub), [.l 1, .l 0], some (.l 7, false), 0⟩,
  ⟨24, .N (.bin .sub), [.l 0, .c (.int .i64 1)], some (.l 8, false), 0⟩,
  ⟨25, .N (.bin .gtr), [.l 5, .l 0], some (.l 9, false), 0⟩,
  ⟨26, .N .pick, [.l 10, .c (.bool true), .l 0], none, 0⟩]
def r116_2 (φ : Nat → Nat) : List AOper := [
  ⟨0, .N .mv, [.c (.int .i64 (-1))], none, 0⟩]
def r116_3 (φ : Nat → Nat) : List AOper := [
  ⟨0, .N .mv, [.n 1], none, 0⟩,
  ⟨1, .N (.bin .add), [.l 0, .c (.int .i64 1)], none, 0⟩,
  ⟨2, .N .mv, [.n 0], none, 0⟩,
  ⟨3, .N .mv, [.n 1], none, 0⟩,
  ⟨4, .N (.idx 1), [.l 1, .l 0], none, 0⟩,
  ⟨5, .N .load1, [.l 0], none, 0⟩,
  ⟨6, .N (.bin .add), [.l 4, .l 0], none, 0⟩,
  ⟨7, .N .mv, [.l 0], none, 0⟩]
def b116 (φ : Nat → Nat) : ACode := .seq (.reg false (r116_0 φ) [(2, 0)]) (.seq (.seq (.reg false (r116_1 φ) [(3, 0)]) (.cond (.n 3) (.seq (.reg false (r116_2 φ) [(2, 0)]) (.ret)) (.skip))) (.seq (.reg false (r116_3 φ) [(2, 0)]) (.ret)))
def f116 (φ : Nat → Nat) : AFn := ⟨2, [0, 1, 4, 31], 39, b116 φ, [.t 2]⟩
/-! 117: carcanet/carcanetref22.rows: 0:l 1:at 2: 3:n 4:i 5: 6: -/
def r117_0 (φ : Nat → Nat) : List AOper := [
  ⟨0, .N .mv, [.c (.int .i64 0)], none, 0⟩]
def r117_1 (φ : Nat → Nat) : List AOper := [
  ⟨0, .N .mv, [.n 1], none, 0⟩,
  ⟨1, .N (.bin .lss), [.l 0, .c (.int .i64 0)], none, 0⟩,
  ⟨2, .N .mv, [.l 0], none, 0⟩,
  ⟨3, .N .mv, [.n 1], some (.l 0, false), 0⟩,
  ⟨4, .N .mv, [.n 0], some (.l 1, false), 0⟩,
  ⟨5, .N .lenS, [.l 0], some (.l 2, false), 0⟩,
  ⟨6, .N (.bin .geq), [.l 2, .l 0], some (.l 3, false), 0⟩,
  ⟨7, .N .pick, [.l 4, .c (.bool true), .l 0], none, 0⟩,
  ⟨8, .N .mv, [.l 0], none, 0⟩,
  ⟨9, .N .mv, [.n 0], some (.l 0, false), 0⟩,
  ⟨10, .N .mv, [.n 1], some (.l 1, false), 0⟩,
  ⟨11, .N (.idx 1), [.l 1, .l 0], some (.l 2, false), 0⟩,
  ⟨12, .N .load1, [.l 0], some (.l 3, false), 0⟩,
  ⟨13, .N (.bin .lss), [.l 0, .c (.int .i64 0)], some (.l 4, false), 0⟩,
  ⟨14, .N .pick, [.l 5, .c (.bool true), .l 0], none, 0⟩,
  ⟨15, .N .mv, [.l 0], none, 0⟩,
  ⟨16, .N .mv, [.n 0], some (.l 0, false), 0⟩,
  ⟨17, .N .mv, [.n 1], some (.l 1, false), 0⟩,
  ⟨18, .N (.idx 1), [.l 1, .l 0], some (.l 2, false), 0⟩,
  ⟨19, .N .load1, [.l 0], some (.l 3, false), 0⟩,
  ⟨20, .N .mv, [.n 0], some (.l 4, false), 0⟩,
  ⟨21, .N .lenS, [.l 0], some (.l 5, false), 0⟩,
  ⟨22, .N .mv, [.n 1], some (.l 6, false), 0⟩,
  ⟨23, .N (.bin .sub), [.l 1, .l 0], some (.l 7, false), 0⟩,
  ⟨24, .N (.bin .sub), [.l 0, .c (.int .i64 1)], some (.l 8, false), 0⟩,
  ⟨25, .N (.bin .gtr), [.l 5, .l 0], some (.l 9, false), 0⟩,
  ⟨26, .N .pick, [.l 10, .c (.bool true), .l 0], none, 0⟩]
def r117_2 (φ : Nat → Nat) : List AOper := [
  ⟨0, .N .mv, [.c (.int .i64 (-1))], none, 0⟩]
def r117_3 (φ : Nat → Nat) : List AOper := [
  ⟨0, .N .mv, [.n 0], none, 0⟩,
  ⟨1, .N .mv, [.n 1], none, 0⟩,
  ⟨2, .N (.idx 1), [.l 1, .l 0], none, 0⟩,
  ⟨3, .N .load1, [.l 0], none, 0⟩,
  ⟨4, .N .mv, [.l 0], none, 0⟩]
def r117_4 (φ : Nat → Nat) : List AOper := [
  ⟨0, .N .mv, [.n 1], none, 0⟩,
  ⟨1, .N (.bin .add), [.l 0, .c (.int .i64 1)], none, 0⟩,
  ⟨2, .N .mv, [.l 0], none, 0⟩]
def r117_5 (φ : Nat → Nat) : List AOper := [
  ⟨0, .N .mv, [.c (.int .i64 0)], none, 0⟩]
def r117_6 (φ : Nat → Nat) : List AOper := [
  ⟨0, .N .mv, [.n 4], none, 0⟩,
  ⟨1, .N .mv, [.n 3], none, 0⟩,
  ⟨2, .N (.bin .lss), [.l 1, .l 0], none, 0⟩,
  ⟨3, .N .mv, [.l 0], none, 0⟩,
  ⟨4, .N .mv, [.n 1], some (.l 0, true), 0⟩,
  ⟨5, .N (.bin .geq), [.l 0, .c (.int .i64 0)], some (.l 1, true), 0⟩,
  ⟨6, .N .pick, [.l 2, .l 0, .c (.bool false)], none, 0⟩]
def r117_7 (φ : Nat → Nat) : List AOper := [
  ⟨0, .N .mv, [.n 0], none, 0⟩,
  ⟨1, .N .mv, [.n 1], none, 0⟩,
  ⟨2, .calli true (φ 116), [.l 1, .l 0], none, 0⟩,
  ⟨3, .N .mv, [.l 0], none, 0⟩]
def r117_8 (φ : Nat → Nat) : List AOper := [
  ⟨0, .N .mv, [.n 4], none, 0⟩,
  ⟨1, .N (.bin .add), [.l 0, .c (.int .i64 1)], none, 0⟩,
  ⟨2, .N .mv, [.l 0], none, 0⟩]
def l117_9 (φ : Nat → Nat) : ACode := .seq (.seq (.reg false (r117_6 φ) [(6, 0)]) (.cond (.n 6) (.skip) (.exit 0))) (.seq (.block 1 (.reg false (r117_7 φ) [(1, 0)])) (.reg false (r117_8 φ) [(4, 0)]))
def r117_10 (φ : Nat → Nat) : List AOper := [
  ⟨0, .N .mv, [.n 1], none, 0⟩,
  ⟨1, .N .mv, [.l 0], none, 0⟩]
def b117 (φ : Nat → Nat) : ACode := .seq (.reg false (r117_0 φ) [(2, 0)]) (.seq (.seq (.reg false (r117_1 φ) [(5, 0)]) (.cond (.n 5) (.seq (.reg false (r117_2 φ) [(2, 0)]) (.ret)) (.skip))) (.seq (.reg false (r117_3 φ) [(3, 0)]) (.seq (.reg false (r117_4 φ) [(1, 0)]) (.seq (.seq (.reg false (r117_5 φ) [(4, 0)]) (.block 0 (.loop (l117_9 φ)))) (.seq (.reg false (r117_10 φ) [(2, 0)]) (.ret))))))
def f117 (φ : Nat → Nat) : AFn := ⟨2, [0, 1, 4, 5, 6, 33, 46], 53, b117 φ, [.t 2]⟩
/-! 118: carcanet/carcanetref22.trees: 0:l 1:at 2: 3:n 4:i 5: 6: -/
def r118_0 (φ : Nat → Nat) : List AOper := [
  ⟨0, .N .mv, [.c (.int .i64 0)], none, 0⟩]
def r118_1 (φ : Nat → Nat) : List AOper := [
  ⟨0, .N .mv, [.n 1], none, 0⟩,
  ⟨1, .N (.bin .lss), [.l 0, .c (.int .i64 0)], none, 0⟩,
  ⟨2, .N .mv, [.l 0], none, 0⟩,
  ⟨3, .N .mv, [.n 1], some (.l 0, false), 0⟩,
  ⟨4, .N .mv, [.n 0], some (.l 1, false), 0⟩,
  ⟨5, .N .lenS, [.l 0], some (.l 2, false), 0⟩,
  ⟨6, .N (.bin .geq), [.l 2, .l 0], some (.l 3, false), 0⟩,
  ⟨7, .N .pick, [.l 4, .c (.bool true), .l 0], none, 0⟩,
  ⟨8, .N .mv, [.l 0], none, 0⟩,
  ⟨9, .N .mv, [.n 0], some (.l 0, false), 0⟩,
  ⟨10, .N .mv, [.n 1], some (.l 1, false), 0⟩,
  ⟨11, .N (.idx 1), [.l 1, .l 0], some (.l 2, false), 0⟩,
  ⟨12, .N .load1, [.l 0], some (.l 3, false), 0⟩,
  ⟨13, .N (.bin .lss), [.l 0, .c (.int .i64 0)], some (.l 4, false), 0⟩,
  ⟨14, .N .pick, [.l 5, .c (.bool true), .l 0], none, 0⟩,
  ⟨15, .N .mv, [.l 0], none, 0⟩,
  ⟨16, .N .mv, [.n 0], some (.l 0, false), 0⟩,
  ⟨17, .N .mv, [.n 1], some (.l 1, false), 0⟩,
  ⟨18, .N (.idx 1), [.l 1, .l 0], some (.l 2, false), 0⟩,
  ⟨19, .N .load1, [.l 0], some (.l 3, false), 0⟩,
  ⟨20, .N .mv, [.n 0], some (.l 4, false), 0⟩,
  ⟨21, .N .lenS, [.l 0], some (.l 5, false), 0⟩,
  ⟨22, .N .mv, [.n 1], some (.l 6, false), 0⟩,
  ⟨23, .N (.bin .sub), [.l 1, .l 0], some (.l 7, false), 0⟩,
  ⟨24, .N (.bin .sub), [.l 0, .c (.int .i64 1)], some (.l 8, false), 0⟩,
  ⟨25, .N (.bin .gtr), [.l 5, .l 0], some (.l 9, false), 0⟩,
  ⟨26, .N .pick, [.l 10, .c (.bool true), .l 0], none, 0⟩]
def r118_2 (φ : Nat → Nat) : List AOper := [
  ⟨0, .N .mv, [.c (.int .i64 (-1))], none, 0⟩]
def r118_3 (φ : Nat → Nat) : List AOper := [
  ⟨0, .N .mv, [.n 0], none, 0⟩,
  ⟨1, .N .mv, [.n 1], none, 0⟩,
  ⟨2, .N (.idx 1), [.l 1, .l 0], none, 0⟩,
  ⟨3, .N .load1, [.l 0], none, 0⟩,
  ⟨4, .N .mv, [.l 0], none, 0⟩]
def r118_4 (φ : Nat → Nat) : List AOper := [
  ⟨0, .N .mv, [.n 1], none, 0⟩,
  ⟨1, .N (.bin .add), [.l 0, .c (.int .i64 1)], none, 0⟩,
  ⟨2, .N .mv, [.l 0], none, 0⟩]
def r118_5 (φ : Nat → Nat) : List AOper := [
  ⟨0, .N .mv, [.c (.int .i64 0)], none, 0⟩]
def r118_6 (φ : Nat → Nat) : List AOper := [
  ⟨0, .N .mv, [.n 4], none, 0⟩,
  ⟨1, .N .mv, [.n 3], none, 0⟩,
  ⟨2, .N (.bin .lss), [.l 1, .l 0], none, 0⟩,
  ⟨3, .N .mv, [.l 0], none, 0⟩,
  ⟨4, .N .mv, [.n 1], some (.l 0, true), 0⟩,
  ⟨5, .N (.bin .geq), [.l 0, .c (.int .i64 0)], some (.l 1, true), 0⟩,
  ⟨6, .N .pick, [.l 2, .l 0, .c (.bool false)], none, 0⟩]
def r118_7 (φ : Nat → Nat) : List AOper := [
  ⟨0, .N .mv, [.n 0], none, 0⟩,
  ⟨1, .N .mv, [.n 1], none, 0⟩,
  ⟨2, .calli true (φ 119), [.l 1, .l 0, .c (.int .i64 3)], none, 0⟩,
  ⟨3, .N .mv, [.l 0], none, 0⟩]
def r118_8 (φ : Nat → Nat) : List AOper := [
  ⟨0, .N .mv, [.n 4], none, 0⟩,
  ⟨1, .N (.bin .add), [.l 0, .c (.int .i64 1)], none, 0⟩,
  ⟨2, .N .mv, [.l 0], none, 0⟩]
def l118_9 (φ : Nat → Nat) : ACode := .seq (.seq (.reg false (r118_6 φ) [(6, 0)]) (.cond (.n 6) (.skip) (.exit 0))) (.seq (.block 1 (.reg false (r118_7 φ) [(1, 0)])) (.reg false (r118_8 φ) [(4, 0)]))
def r118_10 (φ : Nat → Nat) : List AOper := [
  ⟨0, .N .mv, [.n 1], none, 0⟩,
  ⟨1, .N .mv, [.l 0], none, 0⟩]
def b118 (φ : Nat → Nat) : ACode := .seq (.reg false (r118_0 φ) [(2, 0)]) (.seq (.seq (.reg false (r118_1 φ) [(5, 0)]) (.cond (.n 5) (.seq (.reg false (r118_2 φ) [(2, 0)]) (.ret)) (.skip))) (.seq (.reg false (r118_3 φ) [(3, 0)]) (.seq (.reg false (r118_4 φ) [(1, 0)]) (.seq (.seq (.reg false (r118_5 φ) [(4, 0)]) (.block 0 (.loop (l118_9 φ)))) (.seq (.reg false (r118_10 φ) [(2, 0)]) (.ret))))))
def f118 (φ : Nat → Nat) : AFn := ⟨2, [0, 1, 4, 5, 6, 33, 46], 53, b118 φ, [.t 2]⟩
/-! 119: carcanet/carcanetref22.things: 0:l 1:at 2:each 3: 4: -/
def r119_0 (φ : Nat → Nat) : List AOper := [
  ⟨0, .N .mv, [.c (.int .i64 0)], none, 0⟩]
def r119_1 (φ : Nat → Nat) : List AOper := [
  ⟨0, .N .mv, [.n 1], none, 0⟩,
  ⟨1, .N (.bin .lss), [.l 0, .c (.int .i64 0)], none, 1⟩,
  ⟨2, .N .mv, [.l 0], none, 3⟩,
  ⟨3, .N .mv, [.n 1], some (.l 0, false), 7⟩,
  ⟨4, .N .mv, [.n 0], some (.l 1, false), 7⟩,
  ⟨5, .N .lenS, [.l 0], some (.l 2, false), 23⟩,
  ⟨6, .N (.bin .geq), [.l 2, .l 0], some (.l 3, false), 63⟩,
  ⟨7, .N .pick, [.l 4, .c (.bool true), .l 0], none, 127⟩,
  ⟨8, .N .mv, [.l 0], none, 255⟩,
  ⟨9, .N .mv, [.n 0], some (.l 0, false), 511⟩,
  ⟨10, .N .mv, [.n 1], some (.l 1, false), 511⟩,
  ⟨11, .N (.idx 1), [.l 1, .l 0], some (.l 2, false), 2047⟩,
  ⟨12, .N .load1, [.l 0], some (.l 3, false), 4095⟩,
  ⟨13, .N (.bin .lss), [.l 0, .c (.int .i64 0)], some (.l 4, false), 8191⟩,
  ⟨14, .N .pick, [.l 5, .c (.bool true), .l 0], none, 16383⟩,
  ⟨15, .N .mv, [.l 0], none, 32767⟩,
  ⟨16, .N .mv, [.n 0], some (.l 0, false), 65535⟩,
  ⟨17, .N .mv, [.n 1], some (.l 1, false), 65535⟩,
  ⟨18, .N (.idx 1), [.l 1, .l 0], some (.l 2, false), 262143⟩,
  ⟨19, .N .load1, [.l 0], some (.l 3, false), 524287⟩,
  ⟨20, .N .mv, [.n 0], some (.l 4, false), 65535⟩,
  ⟨21, .N .lenS, [.l 0], some (.l 5, false), 1114111⟩,
  ⟨22, .N .mv, [.n 1], some (.l 6, false), 65535⟩,
  ⟨23, .N (.bin .sub), [.l 1, .l 0], some (.l 7, false), 7405567⟩,
  ⟨24, .N (.bin .sub), [.l 0, .c (.int .i64 1)], some (.l 8, false), 15794175⟩,
  ⟨25, .N .mv, [.n 2], some (.l 9, false), 65535⟩,
  ⟨26, .N (.bin .quo), [.l 1, .l 0], some (.l 10, false), 66125823⟩,
  ⟨27, .N (.bin .gtr), [.l 7, .l 0], some (.l 11, false), 134217727⟩,
  ⟨28, .N .pick, [.l 12, .c (.bool true), .l 0], none, 268435455⟩]
def r119_2 (φ : Nat → Nat) : List AOper := [
  ⟨0, .N .mv, [.c (.int .i64 (-1))], none, 0⟩]
def r119_3 (φ : Nat → Nat) : List AOper := [
  ⟨0, .N .mv, [.n 1], none, 0⟩,
  ⟨1, .N (.bin .add), [.l 0, .c (.int .i64 1)], none, 0⟩,
  ⟨2, .N .mv, [.n 2], none, 0⟩,
  ⟨3, .N .mv, [.n 0], none, 0⟩,
  ⟨4, .N .mv, [.n 1], none, 0⟩,
  ⟨5, .N (.idx 1), [.l 1, .l 0], none, 0⟩,
  ⟨6, .N .load1, [.l 0], none, 0⟩,
  ⟨7, .N (.bin .mul), [.l 4, .l 0], none, 0⟩,
  ⟨8, .N (.bin .add), [.l 6, .l 0], none, 0⟩,
  ⟨9, .N .mv, [.l 0], none, 0⟩]
def b119 (φ : Nat → Nat) : ACode := .seq (.reg false (r119_0 φ) [(3, 0)]) (.seq (.seq (.reg true (r119_1 φ) [(4, 0)]) (.cond (.n 4) (.seq (.reg false (r119_2 φ) [(3, 0)]) (.ret)) (.skip))) (.seq (.reg false (r119_3 φ) [(3, 0)]) (.ret)))
def f119 (φ : Nat → Nat) : AFn := ⟨3, [0, 1, 2, 6, 35], 45, b119 φ, [.t 3]⟩
/-! 123: carcanet/carcanetref22.Rows: 0:l 1:at 2: 3:out 4:n 5:i 6: -/
def r123_0 (φ : Nat → Nat) : List AOper := [
  ⟨0, .N .mv, [.c (.nils)], none, 0⟩]
def r123_1 (φ : Nat → Nat) : List AOper := [
  ⟨0, .N .mv, [.c (.nils)], none, 0⟩]
def r123_2 (φ : Nat → Nat) : List AOper := [
  ⟨0, .N .mv, [.n 0], none, 0⟩,
  ⟨1, .N .mv, [.n 1], none, 0⟩,
  ⟨2, .N (.idx 1), [.l 1, .l 0], none, 0⟩,
  ⟨3, .N .load1, [.l 0], none, 0⟩,
  ⟨4, .N .mv, [.l 0], none, 0⟩]
def r123_3 (φ : Nat → Nat) : List AOper := [
  ⟨0, .N .mv, [.n 1], none, 0⟩,
  ⟨1, .N (.bin .add), [.l 0, .c (.int .i64 1)], none, 0⟩,
  ⟨2, .N .mv, [.l 0], none, 0⟩]
def r123_4 (φ : Nat → Nat) : List AOper := [
  ⟨0, .N .mv, [.c (.int .i64 0)], none, 0⟩]
def r123_5 (φ : Nat → Nat) : List AOper := [
  ⟨0, .N .mv, [.n 5], none, 0⟩,
  ⟨1, .N .mv, [.n 4], none, 0⟩,
  ⟨2, .N (.bin .lss), [.l 1, .l 0], none, 0⟩]
def r123_6 (φ : Nat → Nat) : List AOper := [
  ⟨0, .N .mv, [.n 3], none, 0⟩,
  ⟨1, .N .mv, [.n 0], none, 0⟩,
  ⟨2, .N .mv, [.n 1], none, 0⟩,
  ⟨3, .calli false (φ 112), [.l 1, .l 0], none, 0⟩,
  ⟨4, .N (.bsl [.nils] 1 1 [(0, 1)]), [.l 0], none, 0⟩,
  ⟨5, .X (.app 1 24), [.l 4, .l 0], none, 0⟩,
  ⟨6, .N .mv, [.l 0], none, 0⟩]
def r123_7 (φ : Nat → Nat) : List AOper := [
  ⟨0, .N .mv, [.n 1], none, 0⟩,
  ⟨1, .N (.bin .add), [.l 0, .c (.int .i64 1)], none, 0⟩,
  ⟨2, .N .mv, [.n 0], none, 0⟩,
  ⟨3, .N .mv, [.n 1], none, 0⟩,
  ⟨4, .N (.idx 1), [.l 1, .l 0], none, 0⟩,
  ⟨5, .N .load1, [.l 0], none, 0⟩,
  ⟨6, .N (.bin .add), [.l 4, .l 0], none, 0⟩,
  ⟨7, .N .mv, [.l 0], none, 0⟩]
def r123_8 (φ : Nat → Nat) : List AOper := [
  ⟨0, .N .mv, [.n 5], none, 0⟩,
  ⟨1, .N (.bin .add), [.l 0, .c (.int .i64 1)], none, 0⟩,
  ⟨2, .N .mv, [.l 0], none, 0⟩]
def l123_9 (φ : Nat → Nat) : ACode := .seq (.seq (.reg false (r123_5 φ) [(6, 0)]) (.cond (.n 6) (.skip) (.exit 0))) (.seq (.block 1 (.seq (.reg false (r123_6 φ) [(3, 0)]) (.reg false (r123_7 φ) [(1, 0)]))) (.reg false (r123_8 φ) [(5, 0)]))
def r123_10 (φ : Nat → Nat) : List AOper := [
  ⟨0, .N .mv, [.n 3], none, 0⟩,
  ⟨1, .N .mv, [.l 0], none, 0⟩]
def b123 (φ : Nat → Nat) : ACode := .seq (.reg false (r123_0 φ) [(2, 0)]) (.seq (.reg false (r123_1 φ) [(3, 0)]) (.seq (.reg false (r123_2 φ) [(4, 0)]) (.seq (.reg false (r123_3 φ) [(1, 0)]) (.seq (.seq (.reg false (r123_4 φ) [(5, 0)]) (.block 0 (.loop (l123_9 φ)))) (.seq (.reg false (r123_10 φ) [(2, 0)]) (.ret))))))
def f123 (φ : Nat → Nat) : AFn := ⟨2, [0, 1, 4, 5, 6, 7, 16], 33, b123 φ, [.t 2]⟩
end Go.Ai.G
