/- A part of what the law leans on: the abstract machine, the contracts, the rows. -/
import Derived.Test.YtmekjhnlmoidpaaK4
import Derived.LoopN
import Derived.Scope
/- The abstract machine's code, functions and programs, and that they do as the model's. -/
namespace Go.Ai
set_option linter.unusedSectionVars false
variable [DrMode]
set_option linter.unusedVariables false
set_option linter.unusedSimpArgs false

inductive ACode where
  | skip
  | ret
  | lab
  | reg (draw : Bool) (ops : List AOper) (outs : List (Nat × Nat))
  | seq (a b : ACode)
  | cond (c : AOpd) (t e : ACode)
  | block (id : Nat) (b : ACode)
  | loop (b : ACode)
  | scope (b : ACode)
  | exit (id : Nat)
inductive Ex where
  | norm
  | ret
  | exit (id : Nat)
  | pan (v : AV)
abbrev St := List AV × Heap

def applyOuts (env loc : List AV) : List (Nat × Nat) → List AV
  | [] => env
  | (j, d) :: r => applyOuts (env.set j (loc.getD d .un)) loc r
def blankOuts (env : List AV) : List (Nat × Nat) → List AV
  | [] => env
  | (j, _) :: r => blankOuts (env.set j .un) r
def iter (f : St → Option (Ex × St)) : Nat → St → Option (Ex × St)
  | 0, _ => none
  | n + 1, st => match f st with
    | some (.norm, st') => iter f n st'
    | r => r
def runC (cl : Caller) (k : Nat) : ACode → St → Option (Ex × St)
  | .skip, st => some (.norm, st)
  | .lab, st => some (.norm, st)
  | .ret, st => some (.ret, st)
  | .exit id, st => some (.exit id, st)
  | .reg false ops outs, st => (match runOps cl st.1 ops [] st.2 with
    | some (.ok loc H) => some (.norm, (applyOuts st.1 loc outs, H))
    | some (.pan v H) => some (.pan v, (blankOuts st.1 outs, H))
    | none => none)
  | .reg true ops outs, st => (match runDraw cl st.1 ops [] [] [] st.2 with
    | some (loc, H) => some (.norm, (applyOuts st.1 loc outs, H))
    | none => none)
  | .seq a b, st => (match runC cl k a st with
    | some (.norm, st') => runC cl k b st'
    | r => r)
  | .cond c t e, st => (match evalOpd st.1 [] c with
    | .bool true => runC cl k t st
    | .bool false => runC cl k e st
    | _ => none)
  | .block id b, st => (match runC cl k b st with
    | some (.exit id', st') => if id' = id then some (.norm, st') else some (.exit id', st')
    | r => r)
  | .loop b, st => iter (runC cl k b) k st
  | .scope b, st => runC cl k b st

def chkOuts (names : List Tmp) (dsts : List (Option Tmp)) (outs : List (Nat × Nat)) : Bool :=
  (outs.all fun p => match names[p.1]? with
    | some t => dsts[p.2]? == some (some t) && !(dsts.take p.2).contains (some t)
    | none => false) &&
  ((List.range names.length).all fun j => match names[j]? with
    | some t => !dsts.contains (some t) || outs.any fun p => p.1 == j
    | none => true)
def chkC (P : Program) (names : List Tmp) (nt : Nat) : Code → ACode → Bool
  | .skip, .skip => true
  | .ret, .ret => true
  | .label _, .lab => true
  | .exit id, .exit id' => id == id'
  | .region _ ops draw, .reg draw' l outs => draw == draw' && (if draw then P.follows .mixedOrders && chkDraw P names nt ops l else l.map (·.ix) == List.range ops.size && chkOps P names nt ops [] l) && chkOuts names (dstsOf ops [] l) outs
  | .seq a b, .seq a' b' => chkC P names nt a a' && chkC P names nt b b'
  | .cond c t e, .cond c' t' e' => chkOpd names [] c c' && chkC P names nt t t' && chkC P names nt e e'
  | .block id b, .block id' b' => id == id' && chkC P names nt b b'
  | .loop b, .loop b' => chkC P names nt b b'
  | .scope b, .scope b' => chkC P names nt b b'
  | _, _ => false

/-- A frame of the model's, and what the abstract machine holds in its place. -/
structure FInv (names : List Tmp) (nt : Nat) (ds : List Deferred) (env : List AV) (μ : Mu) (a : Act) : Prop where
  len : env.length = names.length
  size : a.tmps.size = nt
  defers : a.defers = ds
  named : ∀ (j : Nat) t, names[j]? = some t → VR μ (env.getD j .un) (a.tmps.getD t undef)
def exR (μ : Mu) : Ex → Exit → Prop
  | .norm, .normal => True
  | .ret, .ret => True
  | .exit id, .exit id' => id = id'
  | .pan v, .panic chain => ∃ u, chain = [{ v := u, recovered := false }] ∧ VR μ v u
  | _, _ => False

variable {P : Program} {cl : Caller} {μ ν : Mu} {w : World} {B : Nat} {H : Heap} {names : List Tmp} {nt : Nat} {ds : List Deferred} {env loc : List AV} {a : Act}

theorem FInv.mono (h : FInv names nt ds env μ a) (hle : μ.le ν) : FInv names nt ds env ν a := ⟨h.len, h.size, h.defers, fun j t hj => (h.named j t hj).mono hle⟩
theorem FInv.inv (h : FInv names nt ds env μ a) : Inv names nt ds env [] [] μ a := ⟨h.size, h.defers, fun j t hj _ => h.named j t hj, fun d t hd => by simp at hd⟩
theorem applyOuts_len (loc : List AV) : ∀ (outs : List (Nat × Nat)) (env : List AV), (applyOuts env loc outs).length = env.length
  | [], env => rfl
  | (j, d) :: r, env => by rw [applyOuts, applyOuts_len loc r]; simp
theorem blankOuts_len : ∀ (outs : List (Nat × Nat)) (env : List AV), (blankOuts env outs).length = env.length
  | [], env => rfl
  | (j, d) :: r, env => by rw [blankOuts, blankOuts_len r]; simp
theorem applyOuts_good (good : Nat → AV → Prop) (loc : List AV) : ∀ (outs : List (Nat × Nat)) (env : List AV), (∀ p ∈ outs, good p.1 (loc.getD p.2 .un)) → (∀ j, j < env.length → good j (env.getD j .un) ∨ ∃ p ∈ outs, p.1 = j) → ∀ j, j < env.length → good j ((applyOuts env loc outs).getD j .un)
  | [], env, _, h2, j, hj => by
    rcases h2 j hj with h | ⟨p, hp, _⟩
    · exact h
    · simp at hp
  | (i, d) :: r, env, h1, h2, j, hj => by
    rw [applyOuts]
    refine applyOuts_good good loc r _ (fun p hp => h1 p (by simp [hp])) (fun k hk => ?_) j (by simpa using hj)
    simp only [List.length_set] at hk
    by_cases e : i = k
    · subst e
      left
      have := h1 (i, d) (by simp)
      simpa [List.getD_eq_getElem?_getD, List.getElem?_set, hk] using this
    · rcases h2 k hk with h | ⟨p, hp, e2⟩
      · left; simpa [List.getD_eq_getElem?_getD, List.getElem?_set_ne e] using h
      · simp only [List.mem_cons] at hp
        rcases hp with rfl | hp
        · exact absurd e2 e
        · exact .inr ⟨p, hp, e2⟩
theorem blankOuts_good (good : Nat → AV → Prop) (hun : ∀ j, good j .un) : ∀ (outs : List (Nat × Nat)) (env : List AV), (∀ j, j < env.length → good j (env.getD j .un) ∨ ∃ p ∈ outs, p.1 = j) → ∀ j, j < env.length → good j ((blankOuts env outs).getD j .un)
  | [], env, h2, j, hj => by
    rcases h2 j hj with h | ⟨p, hp, _⟩
    · exact h
    · simp at hp
  | (i, d) :: r, env, h2, j, hj => by
    rw [blankOuts]
    refine blankOuts_good good hun r _ (fun k hk => ?_) j (by simpa using hj)
    simp only [List.length_set] at hk
    by_cases e : i = k
    · subst e
      left
      have := hun i
      simpa [List.getD_eq_getElem?_getD, List.getElem?_set, hk] using this
    · rcases h2 k hk with h | ⟨p, hp, e2⟩
      · left; simpa [List.getD_eq_getElem?_getD, List.getElem?_set_ne e] using h
      · simp only [List.mem_cons] at hp
        rcases hp with rfl | hp
        · exact absurd e2 e
        · exact .inr ⟨p, hp, e2⟩
theorem chkOuts_cover {dsts : List (Option Tmp)} {outs : List (Nat × Nat)} (hc : chkOuts names dsts outs = true) {j : Nat} {t : Tmp} (hj : names[j]? = some t) (hm : some t ∈ dsts) : ∃ p ∈ outs, p.1 = j := by
  simp only [chkOuts, Bool.and_eq_true] at hc
  have := List.all_eq_true.1 hc.2 j (by simpa using (List.getElem?_eq_some_iff.1 hj).1)
  rw [hj] at this
  simp only [Bool.or_eq_true, Bool.not_eq_true'] at this
  rcases this with h | h
  · rw [List.contains_iff_mem.2 hm] at h; cases h
  · obtain ⟨p, hp, e⟩ := List.any_eq_true.1 h
    exact ⟨p, hp, by simpa using e⟩
theorem outs_inv {dsts : List (Option Tmp)} {outs : List (Nat × Nat)} (hl : env.length = names.length) (h : Inv names nt ds env loc dsts μ a) (hc : chkOuts names dsts outs = true) : FInv names nt ds (applyOuts env loc outs) μ a := by
  refine ⟨by rw [applyOuts_len, hl], h.size, h.defers, fun j t hj => ?_⟩
  have hjl : j < env.length := by rw [hl]; exact (List.getElem?_eq_some_iff.1 hj).1
  refine applyOuts_good (fun j v => ∀ t, names[j]? = some t → VR μ v (a.tmps.getD t undef)) loc outs env ?_ ?_ j hjl t hj
  · intro p hp t ht
    simp only [chkOuts, Bool.and_eq_true] at hc
    have := List.all_eq_true.1 hc.1 p hp
    rw [ht] at this
    simp only [Bool.and_eq_true, beq_iff_eq, Bool.not_eq_true'] at this
    exact h.locs p.2 t this.1 (fun hm => by rw [List.contains_iff_mem.2 hm] at this; simp at this)
  · intro k hk
    cases hn : names[k]? with
    | none => left; intro t ht; cases ht
    | some t =>
      by_cases hm : some t ∈ dsts
      · exact .inr (chkOuts_cover hc hn hm)
      · left; intro t' ht'; rw [Option.some.inj ht'.symm] at *; exact h.named k t hn hm
theorem blank_inv {dsts dsts' : List (Option Tmp)} {outs : List (Nat × Nat)} (hl : env.length = names.length) (h : Inv names nt ds env loc dsts' μ a) (hsub : ∀ t, some t ∈ dsts' → some t ∈ dsts) (hc : chkOuts names dsts outs = true) : FInv names nt ds (blankOuts env outs) μ a := by
  refine ⟨by rw [blankOuts_len, hl], h.size, h.defers, fun j t hj => ?_⟩
  have hjl : j < env.length := by rw [hl]; exact (List.getElem?_eq_some_iff.1 hj).1
  refine blankOuts_good (fun j v => ∀ t, names[j]? = some t → VR μ v (a.tmps.getD t undef)) (fun j t _ => .un _) outs env ?_ j hjl t hj
  intro k hk
  cases hn : names[k]? with
  | none => left; intro t ht; cases ht
  | some t =>
    by_cases hm : some t ∈ dsts'
    · exact .inr (chkOuts_cover hc hn (hsub t hm))
    · left; intro t' ht'; rw [Option.some.inj ht'.symm] at *; exact h.named k t hn hm

/-- THE CODE DOES AS THE MODEL'S. -/
theorem code_sound (hcl : Sound P cl) (k : Nat) : ∀ (ac : ACode) (c : Code) (Q : Exit → Act → World → Prop) (μ : Mu) (H : Heap) (env : List AV) (a : Act) (w : World) (ex : Ex) (st' : St), chkC P names nt c ac = true → FInv names nt ds env μ a → HR B μ H w → runC cl k ac (env, H) = some (ex, st') →
    (∀ e a' w' ν, exR ν ex e → FInv names nt ds st'.1 ν a' → HR B ν st'.2 w' → Ext H st'.2 μ ν w w' → Q e a' w') → c.wp P Q a w := by
  intro ac
  induction ac with
  | skip =>
    intro c Q μ H env a w ex st' hc hI hH hr hQ
    cases c <;> simp only [chkC] at hc <;> try (cases hc; done)
    simp only [runC] at hr; cases hr
    exact wp_skip (hQ .normal a w μ trivial hI hH (Ext.refl _ _ _))
  | lab =>
    intro c Q μ H env a w ex st' hc hI hH hr hQ
    cases c <;> simp only [chkC] at hc <;> try (cases hc; done)
    simp only [runC] at hr; cases hr
    exact wp_label (hQ .normal a w μ trivial hI hH (Ext.refl _ _ _))
  | ret =>
    intro c Q μ H env a w ex st' hc hI hH hr hQ
    cases c <;> simp only [chkC] at hc <;> try (cases hc; done)
    simp only [runC] at hr; cases hr
    exact wp_ret (hQ .ret a w μ trivial hI hH (Ext.refl _ _ _))
  | exit id =>
    intro c Q μ H env a w ex st' hc hI hH hr hQ
    cases c <;> simp only [chkC] at hc <;> try (cases hc; done)
    simp only [beq_iff_eq] at hc; subst hc
    simp only [runC] at hr; cases hr
    exact wp_exit (hQ (.exit _) a w μ rfl hI hH (Ext.refl _ _ _))
  | reg draw l outs =>
    intro c Q μ H env a w ex st' hc hI hH hr hQ
    cases c <;> simp only [chkC] at hc <;> try (cases hc; done)
    rename_i id ops draw'
    simp only [Bool.and_eq_true, beq_iff_eq] at hc
    obtain ⟨⟨rfl, h1⟩, h2⟩ := hc
    cases draw' with
    | false =>
      simp only [Bool.false_eq_true, if_false, Bool.and_eq_true, beq_iff_eq] at h1
      simp only [runC] at hr
      refine wp_region ?_
      rw [← h1.1]
      cases hro : runOps cl env l [] H with
      | none => rw [hro] at hr; cases hr
      | some out =>
        rw [hro] at hr
        refine seq_sound hcl l [] [] μ H a w out h1.2 hI.inv hH hro ?_ ?_
        · intro loc1 H1 a' w' ν e hI' hH' hx
          subst e; cases hr
          exact hQ .normal a' w' ν trivial (outs_inv hI.len hI' h2) hH' hx
        · intro v H1 u a' w' ν dsts' e hv hsub hI' hH' hx
          subst e; cases hr
          obtain ⟨loc', hI'⟩ := hI'
          exact hQ _ a' w' ν ⟨u, rfl, hv⟩ (blank_inv hI.len hI' hsub h2) hH' hx
    | true =>
      simp only [if_true, Bool.and_eq_true] at h1
      simp only [runC] at hr
      refine wp_region_any h1.1 ?_
      cases hro : runDraw cl env l [] [] [] H with
      | none => rw [hro] at hr; cases hr
      | some out =>
        obtain ⟨loc, H1⟩ := out
        rw [hro] at hr; cases hr
        refine draw_sound hcl h1.2 hI.inv (w := w.drew) hH.drew hro ?_
        intro a' w' ν hI' hH' hx
        exact hQ .normal a' w' ν trivial (outs_inv hI.len hI' h2) hH' ⟨hx.le, hx.len, hx.calm, hx.blk, hx.frame, hx.size, hx.os, hx.tape, hx.output, fun hm => Nat.le_trans (Nat.le_succ _) (hx.drawn hm), hx.im⟩
  | seq x y ihx ihy =>
    intro c Q μ H env a w ex st' hc hI hH hr hQ
    cases c <;> simp only [chkC] at hc <;> try (cases hc; done)
    simp only [Bool.and_eq_true] at hc
    simp only [runC] at hr
    refine wp_seq ?_
    cases hx : runC cl k x (env, H) with
    | none => rw [hx] at hr; cases hr
    | some r =>
      obtain ⟨e1, st1⟩ := r
      rw [hx] at hr
      refine ihx _ _ μ H env a w e1 st1 hc.1 hI hH hx ?_
      intro e a' w' ν he hI' hH' hxt
      cases e1 with
      | norm =>
        cases e <;> simp only [exR] at he
        simp only at hr
        simp only [Exit.then]
        exact ihy _ Q ν st1.2 st1.1 a' w' ex st' hc.2 hI' hH' hr (fun e a2 w2 ρ h1 h2 h3 h4 => hQ e a2 w2 ρ h1 h2 h3 (hxt.trans h4))
      | ret =>
        cases e <;> simp only [exR] at he
        cases hr
        exact hQ .ret a' w' ν trivial hI' hH' hxt
      | exit id =>
        cases e <;> simp only [exR] at he
        subst he
        cases hr
        exact hQ (.exit _) a' w' ν rfl hI' hH' hxt
      | pan v =>
        cases e <;> simp only [exR] at he
        cases hr
        exact hQ (.panic _) a' w' ν he hI' hH' hxt
  | cond cnd t f iht ihf =>
    intro c Q μ H env a w ex st' hc hI hH hr hQ
    cases c <;> simp only [chkC] at hc <;> try (cases hc; done)
    rename_i c0 x y
    simp only [Bool.and_eq_true] at hc
    obtain ⟨⟨h1, h2⟩, h3⟩ := hc
    have hv := hI.inv.opd h1
    simp only [runC] at hr
    split at hr
    · rename_i hb
      rw [hb] at hv
      have : a.eval c0 = .bool true := by generalize a.eval c0 = u at hv; cases hv; rfl
      exact wp_cond_true this (iht _ Q μ H env a w ex st' h2 hI hH hr hQ)
    · rename_i hb
      rw [hb] at hv
      have : a.eval c0 = .bool false := by generalize a.eval c0 = u at hv; cases hv; rfl
      exact wp_cond_false this (ihf _ Q μ H env a w ex st' h3 hI hH hr hQ)
    · cases hr
  | block id b ih =>
    intro c Q μ H env a w ex st' hc hI hH hr hQ
    cases c <;> simp only [chkC] at hc <;> try (cases hc; done)
    simp only [Bool.and_eq_true, beq_iff_eq] at hc
    obtain ⟨rfl, hc⟩ := hc
    simp only [runC] at hr
    refine wp_block ?_
    cases hx : runC cl k b (env, H) with
    | none => rw [hx] at hr; cases hr
    | some r =>
      obtain ⟨e1, st1⟩ := r
      rw [hx] at hr
      refine ih _ _ μ H env a w e1 st1 hc hI hH hx ?_
      intro e a' w' ν he hI' hH' hxt
      cases e1 with
      | norm =>
        cases e <;> simp only [exR] at he
        cases hr
        exact hQ .normal a' w' ν trivial hI' hH' hxt
      | ret =>
        cases e <;> simp only [exR] at he
        cases hr
        exact hQ .ret a' w' ν trivial hI' hH' hxt
      | exit id' =>
        cases e <;> simp only [exR] at he
        subst he
        simp only at hr
        simp only [Exit.inBlock]
        split at hr
        · rename_i e; cases hr; rw [if_pos e]; exact hQ .normal a' w' ν trivial hI' hH' hxt
        · rename_i e; cases hr; rw [if_neg e]; exact hQ (.exit _) a' w' ν rfl hI' hH' hxt
      | pan v =>
        cases e <;> simp only [exR] at he
        cases hr
        exact hQ (.panic _) a' w' ν he hI' hH' hxt
  | loop b ih =>
    intro c Q μ H env a w ex st' hc hI hH hr hQ
    cases c <;> simp only [chkC] at hc <;> try (cases hc; done)
    rename_i c0
    simp only [runC] at hr
    refine wp_loop_rounds k ?_
    have key : ∀ (n : Nat) (μ : Mu) (H : Heap) (env : List AV) (a : Act) (w : World), FInv names nt ds env μ a → HR B μ H w → iter (runC cl k b) n (env, H) = some (ex, st') →
        (∀ e a' w' ν, exR ν ex e → FInv names nt ds st'.1 ν a' → HR B ν st'.2 w' → Ext H st'.2 μ ν w w' → Q e a' w') → Code.rounds P c0 Q n a w := by
      intro n
      induction n with
      | zero => intro μ H env a w _ _ hr _; simp [iter] at hr
      | succ n ihn =>
        intro μ H env a w hI hH hr hQ
        rw [rounds_succ]
        simp only [iter] at hr
        cases hx : runC cl k b (env, H) with
        | none => rw [hx] at hr; cases hr
        | some r =>
          obtain ⟨e1, st1⟩ := r
          rw [hx] at hr
          refine ih _ _ μ H env a w e1 st1 hc hI hH hx ?_
          intro e a' w' ν he hI' hH' hxt
          cases e1 with
          | norm =>
            cases e <;> simp only [exR] at he
            simp only at hr
            simp only [Exit.then]
            exact ihn ν st1.2 st1.1 a' w' hI' hH' hr (fun e a2 w2 ρ h1 h2 h3 h4 => hQ e a2 w2 ρ h1 h2 h3 (hxt.trans h4))
          | ret =>
            cases e <;> simp only [exR] at he
            cases hr
            exact hQ .ret a' w' ν trivial hI' hH' hxt
          | exit id =>
            cases e <;> simp only [exR] at he
            subst he
            cases hr
            exact hQ (.exit _) a' w' ν rfl hI' hH' hxt
          | pan v =>
            cases e <;> simp only [exR] at he
            cases hr
            exact hQ (.panic _) a' w' ν he hI' hH' hxt
    exact key k μ H env a w hI hH hr hQ
  | scope b ih =>
    intro c Q μ H env a w ex st' hc hI hH hr hQ
    cases c <;> simp only [chkC] at hc <;> try (cases hc; done)
    simp only [runC] at hr
    refine wp_scope_straight ?_
    refine ih _ _ μ H env a w ex st' hc hI hH hr ?_
    intro e a' w' ν he hI' hH' hxt
    have := hQ e a' w' ν he hI' hH' hxt
    cases ex <;> cases e <;> simp only [exR] at he <;> simpa only [Exit.noGoto] using this
end Go.Ai
/- The abstract machine's functions and programs do as the model's. -/
namespace Go.Ai
set_option linter.unusedSectionVars false
variable [DrMode]
set_option linter.unusedVariables false
set_option linter.unusedSimpArgs false

inductive ARes where
  | t (j : Nat)
  | cell (j : Nat) (n : Option Nat)
structure AFn where
  np : Nat
  names : List Tmp
  nt : Nat
  body : ACode
  res : List ARes
structure AProg where
  fns : List (Nat × AFn)
  ext : Nat → Option (List AV → Heap → Option (Out AV))

def resV (env : List AV) (H : Heap) : ARes → Option AV
  | .t j => some (env.getD j .un)
  | .cell j none => (match env.getD j .un with
    | .ptr b g o => (match nstep .load1 [.ptr b g o] (fun b => H[b]?) with
      | some (.val v) => some v
      | _ => none)
    | _ => none)
  | .cell j (some n) => (match env.getD j .un with
    | .ptr b g o => (match nstep (.loadN n) [.ptr b g o] (fun b => H[b]?) with
      | some (.val v) => some v
      | _ => none)
    | _ => none)
def resVs (env : List AV) (H : Heap) : List ARes → Option (List AV)
  | [] => some []
  | r :: rs => match resV env H r, resVs env H rs with
    | some v, some vs => some (v :: vs)
    | _, _ => none
def pack : List AV → AV
  | [v] => v
  | vs => .tup vs
def finish (F : AFn) : Option (Ex × St) → Option (Out AV)
  | some (.norm, st) | some (.ret, st) => (match resVs st.1 st.2 F.res with
    | some vs => some (.ok (pack vs) st.2)
    | none => none)
  | some (.pan v, st) => some (.pan v st.2)
  | _ => none
def env0 (F : AFn) (args : List AV) : List AV := args ++ List.replicate (F.names.length - F.np) .un
def callK (A : AProg) : Nat → Caller
  | 0 => fun _ _ _ => none
  | k + 1 => fun f args H => match A.ext f with
    | some x => x args H
    | none => match A.fns.lookup f with
      | none => none
      | some F => if args.length = F.np then finish F (runC (callK A k) k F.body (env0 F args, H)) else none

def chkRes (P : Program) (names : List Tmp) : List ResultVar → List ARes → Bool
  | [], [] => true
  | .tmp t :: rs, .t j :: ss => names[j]? == some t && chkRes P names rs ss
  | .cell t ty :: rs, .cell j none :: ss => names[j]? == some t && (match P.underlying ty with | some (.struct _) | some (.array ..) | none => false | _ => true) && chkRes P names rs ss
  | .cell t ty :: rs, .cell j (some n) :: ss => names[j]? == some t && (match P.info? ty with | some i => i.size == n | none => false) && (P.underlying ty matches some (.struct _) | some (.array ..)) && chkRes P names rs ss
  | _, _ => false
def chkFn (P : Program) (f : Nat) (F : AFn) : Bool :=
  match P.funcs[f]? with
  | none => false
  | some fn => match fn.body with
    | none => false
    | some c => fn.name != "runtime.NumGoroutine" && F.names.take F.np == List.range F.np && decide (F.np ≤ F.names.length) && F.nt == fn.ntmps && decide (F.np ≤ fn.ntmps) && chkRes P F.names fn.results.toList F.res && chkC P F.names fn.ntmps c F.body

variable {P : Program} {μ : Mu} {w : World} {B : Nat} {H : Heap} {names : List Tmp} {nt : Nat} {ds : List Deferred} {env : List AV} {a : Act}

def resOne (tmps : Array Value) : ResultVar → Sem Value
  | .tmp t => pure (tmps.getD t undef)
  | .cell b t => do loadVar t (← asAddr (tmps.getD b undef))
theorem results_eq (fn : Func) (tmps : Array Value) : results fn tmps = (do
    let vs ← fn.results.mapM (resOne tmps)
    pure (if h : vs.size = 1 then vs[0] else .tuple vs)) := by
  unfold results
  congr 1
theorem res_sound (hI : FInv names nt ds env μ a) (hH : HR B μ H w) : ∀ (rs : List ResultVar) (ss : List ARes) (vs : List AV), chkRes P names rs ss = true → resVs env H ss = some vs →
    ∃ us : List Value, (rs.mapM (resOne a.tmps)).run P w = .ok us w ∧ VRs μ vs us := by
  intro rs
  induction rs with
  | nil =>
    intro ss vs hc hr
    cases ss with
    | nil => simp [resVs] at hr; subst hr; exact ⟨[], by simp, .nil μ⟩
    | cons s ss => simp [chkRes] at hc
  | cons r rs ih =>
    intro ss vs hc hr
    cases ss with
    | nil => cases r <;> simp [chkRes] at hc
    | cons s ss =>
      have key : ∀ (v : AV) (u : Value), resV env H s = some v → chkRes P names rs ss = true → (resOne a.tmps r).run P w = .ok u w → VR μ v u → ∃ us : List Value, ((r :: rs).mapM (resOne a.tmps)).run P w = .ok us w ∧ VRs μ vs us := by
        intro v u h1 h2 h3 h4
        simp only [resVs, h1] at hr
        cases hrs : resVs env H ss with
        | none => rw [hrs] at hr; cases hr
        | some ws =>
          rw [hrs] at hr; cases hr
          obtain ⟨us, hu, hv⟩ := ih ss ws h2 hrs
          refine ⟨u :: us, ?_, .cons h4 hv⟩
          rw [List.mapM_cons]
          simp only [Sem.run_bind]
          rw [h3]
          simp only [Result.andThen_ok]
          rw [hu]
          simp
      cases r with
      | tmp t =>
        cases s with
        | t j =>
          simp only [chkRes, Bool.and_eq_true, beq_iff_eq] at hc
          exact key _ _ rfl hc.2 rfl (hI.named j t hc.1)
        | cell j n => simp [chkRes] at hc
      | cell t ty =>
        cases s with
        | t j => simp [chkRes] at hc
        | cell j n =>
          have hptr : ∀ v, resV env H (.cell j n) = some v → ∃ b g o, env.getD j .un = .ptr b g o := by
            intro v hv
            cases n with
            | none =>
              simp only [resV] at hv
              split at hv
              · rename_i b g o hl; exact ⟨b, g, o, hl⟩
              · cases hv
            | some n =>
              simp only [resV] at hv
              split at hv
              · rename_i b g o hl; exact ⟨b, g, o, hl⟩
              · cases hv
          cases hv : resV env H (.cell j n) with
          | none => simp [resVs, hv] at hr
          | some v =>
            obtain ⟨b, g, of, hp⟩ := hptr v hv
            cases n with
            | none =>
              simp only [chkRes, Bool.and_eq_true, beq_iff_eq] at hc
              obtain ⟨⟨h1, h2⟩, h3⟩ := hc
              have hn := hI.named j t h1
              rw [hp] at hn
              cases hu : a.tmps.getD t undef <;> rw [hu] at hn <;> try (cases hn; done)
              cases hn
              rename_i at_ hat
              simp only [resV, hp, nstep] at hv
              split at hv
              · rename_i hs
                split at hs
                · rename_i hb
                  split at hs
                  · rename_i hg; subst hg
                    obtain ⟨v', hc', e⟩ := Option.map_eq_some_iff.1 hs
                    cases e; cases hv
                    obtain ⟨a2, ha2, hob⟩ := hH.ob b _ hb (by simp)
                    simp only [Ob.gen] at ha2
                    rw [hat] at ha2; cases ha2
                    obtain ⟨u, hu1, hu2⟩ := hob.2.2.1 of v hc'
                    have hA := notAggDesc (P := P) (w := w) h2
                    exact key v u (by simp only [resV, hp, nstep, hb, if_true, hc', Option.map_some]) h3 (by simp [resOne, hu, asAddr, loadVar, hA, hu1]) hu2
                  · cases hs
                · cases hs
              · cases hv
            | some n =>
              simp only [chkRes, Bool.and_eq_true, beq_iff_eq] at hc
              obtain ⟨⟨⟨h1, h2⟩, h4⟩, h3⟩ := hc
              have hn := hI.named j t h1
              rw [hp] at hn
              cases hu : a.tmps.getD t undef <;> rw [hu] at hn <;> try (cases hn; done)
              cases hn
              rename_i at_ hat
              split at h2
              · rename_i i hi
                simp only [resV, hp, nstep] at hv
                split at hv
                · rename_i hs
                  split at hs
                  · rename_i hb
                    split at hs
                    · rename_i hg
                      obtain ⟨hg, hl⟩ := hg
                      subst hg
                      cases hs; cases hv
                      obtain ⟨a2, ha2, hob⟩ := hH.ob b _ hb (by simp)
                      simp only [Ob.gen] at ha2
                      rw [hat] at ha2; cases ha2
                      obtain ⟨us, hus, hr2⟩ := run_cells (P := P) hob of n hl
                      have hA := aggDesc (P := P) (w := w) h4
                      have hs : (sizeOf ty).run P w = .ok n w := by rw [run_sizeOf w hi]; simp only [beq_iff_eq] at h2; simp [Program.cellsOf, hi, h2]
                      exact key _ (.agg us.toArray) (by simp only [resV, hp, nstep, hb]; rw [if_pos ⟨trivial, hl⟩]) h3 (by simp [resOne, hu, asAddr, loadVar, hA, hs, hus]) (.agg' (by simpa using hr2))
                    · cases hs
                  · cases hs
                · cases hv
              · cases h2

theorem enters_of {f : Nat} {fn : Func} (hf : P.funcs[f]? = some fn) (hb : fn.body.isSome = true) (hn : (fn.name != "runtime.NumGoroutine") = true) : Enters P f := by
  intro args w
  have hn' : (fn.name == "runtime.NumGoroutine") = false := by simpa [bne] using hn
  have hbn : fn.body.isNone = false := by cases h : fn.body <;> simp_all
  simp only [callFunc, Sem.run_bind, run_program, Result.andThen_ok, hf, hn', Bool.false_eq_true, if_false, hbn, Sem.run_pure]

/-- What is asked of the functions that are given from outside. -/
def ExtSound (P : Program) (x : Nat → Option (List AV → Heap → Option (Out AV))) : Prop := ∀ f g, x f = some g → ∀ args H out, g args H = some out → Enters P f ∧ H.length ≤ out.heap.length ∧ ∀ B μ w us, HR B μ H w → VRs μ args us → Calls P f us.toArray w (OutR B μ H w out)

theorem lookup_mem {f : Nat} {F : AFn} : ∀ {l : List (Nat × AFn)}, l.lookup f = some F → (f, F) ∈ l
  | [], h => by simp at h
  | (g, G) :: l, h => by
    rw [List.lookup_cons] at h
    by_cases e : f = g
    · subst e; simp at h; simp [h]
    · rw [show (f == g) = false by simpa using e] at h
      exact List.mem_cons_of_mem _ (lookup_mem h)
theorem iter_len {f : St → Option (Ex × St)} (hf : ∀ st ex st', f st = some (ex, st') → st.2.length ≤ st'.2.length) : ∀ (n : Nat) (st st' : St) (ex : Ex), iter f n st = some (ex, st') → st.2.length ≤ st'.2.length
  | 0, st, st', ex, h => by simp [iter] at h
  | n + 1, st, st', ex, h => by
    simp only [iter] at h
    cases hx : f st with
    | none => rw [hx] at h; cases h
    | some r =>
      obtain ⟨e, s⟩ := r
      rw [hx] at h
      have := hf st e s hx
      cases e with
      | norm => exact Nat.le_trans this (iter_len hf n s st' ex h)
      | ret => cases h; exact this
      | exit id => cases h; exact this
      | pan v => cases h; exact this
theorem ops_len {cl : Caller} (hcl : Sound P cl) : ∀ (l : List AOper) (loc : List AV) (H : Heap) (out : Out (List AV)), runOps cl env l loc H = some out → H.length ≤ out.heap.length
  | [], loc, H, out, h => by simp [runOps] at h; subst h; exact Nat.le_refl _
  | o :: l, loc, H, out, h => by
    simp only [runOps] at h
    split at h
    · cases h
    · exact ops_len hcl l _ H out h
    · split at h
      · rename_i v H1 hop
        have h1 := op_len hcl hop
        exact Nat.le_trans h1 (ops_len hcl l _ H1 out h)
      · rename_i v H1 hop
        cases h
        exact op_len hcl hop
      · cases h
theorem draw_len {cl : Caller} (hcl : Sound P cl) : ∀ (l : List AOper) (loc : List AV) (ts bs : List (Option Nat)) (H : Heap) (loc' : List AV) (H' : Heap), runDraw cl env l loc ts bs H = some (loc', H') → H.length ≤ H'.length
  | [], loc, ts, bs, H, loc', H', h => by simp [runDraw] at h; rw [h.2]; exact Nat.le_refl _
  | o :: l, loc, ts, bs, H, loc', H', h => by
    simp only [runDraw] at h
    split at h
    · cases h
    · exact draw_len hcl l _ _ _ H loc' H' h
    · split at h
      · split at h
        · exact draw_len hcl l _ _ _ H loc' H' h
        · exact Nat.le_trans (by simp) (draw_len hcl l _ _ _ _ loc' H' h)
        · cases h
      · split at h
        · rename_i v H1 hop
          split at h
          · have h1 := op_len hcl hop
            simp only [Out.heap, hide_len] at h1
            have h2 := draw_len hcl l _ _ _ _ loc' H' h
            rw [unhide_len] at h2
            exact Nat.le_trans h1 h2
          · cases h
        · cases h
theorem code_len {cl : Caller} (hcl : Sound P cl) (k : Nat) : ∀ (ac : ACode) (st st' : St) (ex : Ex), runC cl k ac st = some (ex, st') → st.2.length ≤ st'.2.length := by
  intro ac
  induction ac with
  | skip | lab | ret | exit =>
    intro st st' ex h; simp only [runC] at h; cases h; exact Nat.le_refl _
  | reg draw l outs =>
    intro st st' ex h
    cases draw with
    | false =>
      simp only [runC] at h
      cases hr : runOps cl st.1 l [] st.2 with
      | none => rw [hr] at h; cases h
      | some out =>
        rw [hr] at h
        have := ops_len hcl l _ _ out hr
        cases out <;> (cases h; exact this)
    | true =>
      simp only [runC] at h
      cases hr : runDraw cl st.1 l [] [] [] st.2 with
      | none => rw [hr] at h; cases h
      | some out => obtain ⟨loc, H1⟩ := out; rw [hr] at h; cases h; exact draw_len hcl l _ _ _ _ _ _ hr
  | seq x y ihx ihy =>
    intro st st' ex h
    simp only [runC] at h
    cases hx : runC cl k x st with
    | none => rw [hx] at h; cases h
    | some r =>
      obtain ⟨e, s⟩ := r
      rw [hx] at h
      have := ihx st s e hx
      cases e with
      | norm => exact Nat.le_trans this (ihy s st' ex h)
      | ret => cases h; exact this
      | exit id => cases h; exact this
      | pan v => cases h; exact this
  | cond c t f iht ihf =>
    intro st st' ex h
    simp only [runC] at h
    split at h
    · exact iht _ _ _ h
    · exact ihf _ _ _ h
    · cases h
  | block id b ih =>
    intro st st' ex h
    simp only [runC] at h
    cases hx : runC cl k b st with
    | none => rw [hx] at h; cases h
    | some r =>
      obtain ⟨e, s⟩ := r
      rw [hx] at h
      have := ih st s e hx
      cases e with
      | exit id' => simp only at h; split at h <;> (cases h; exact this)
      | norm => cases h; exact this
      | ret => cases h; exact this
      | pan v => cases h; exact this
  | loop b ih =>
    intro st st' ex h
    simp only [runC] at h
    exact iter_len (fun st ex st' h => ih st st' ex h) k st st' ex h
  | scope b ih =>
    intro st st' ex h
    simp only [runC] at h
    exact ih st st' ex h

/-- THE PROGRAM DOES AS THE MODEL'S. -/
theorem prog_sound {A : AProg} (hext : ExtSound P A.ext) (hfns : (A.fns.all fun p => chkFn P p.1 p.2) = true) : ∀ k, Sound P (callK A k) := by
  intro k
  induction k with
  | zero => intro f args H out h; cases h
  | succ k ih =>
    intro f args H out h
    simp only [callK] at h
    split at h
    · rename_i x hx; exact hext f x hx args H out h
    · split at h
      · cases h
      · rename_i F hF
        split at h
        · rename_i hnp
          have hchk := List.all_eq_true.1 hfns (f, F) (lookup_mem hF)
          simp only [chkFn] at hchk
          split at hchk
          · cases hchk
          · rename_i fn hfn
            split at hchk
            · cases hchk
            · rename_i c hc
              simp only [Bool.and_eq_true, beq_iff_eq, decide_eq_true_eq] at hchk
              obtain ⟨⟨⟨⟨⟨⟨h1, h2⟩, h3⟩, h4⟩, h5⟩, h6⟩, h7⟩ := hchk
              refine ⟨enters_of hfn (by rw [hc]; rfl) h1, ?_, ?_⟩
              · cases hx : runC (callK A k) k F.body (env0 F args, H) with
                | none => rw [hx] at h; cases h
                | some r =>
                  obtain ⟨e, s⟩ := r
                  rw [hx] at h
                  have := code_len ih k F.body _ s e hx
                  cases e with
                  | norm => simp only [finish] at h; split at h <;> (cases h; try exact this)
                  | ret => simp only [finish] at h; split at h <;> (cases h; try exact this)
                  | exit id => cases h
                  | pan v => cases h; exact this
              · intro B μ w us hH hv
                refine calls_of_wp hfn hc ?_
                cases hx : runC (callK A k) k F.body (env0 F args, H) with
                | none => rw [hx] at h; cases h
                | some r =>
                  obtain ⟨e, s⟩ := r
                  rw [hx] at h
                  have hul : us.length = F.np := by rw [← hv.1, hnp]
                  have hI : FInv F.names fn.ntmps [] (env0 F args) μ { tmps := us.toArray ++ Array.replicate (fn.ntmps - us.toArray.size) undef, defers := [] } := by
                    refine ⟨by simp [env0, hnp]; omega, by simp; omega, rfl, fun j t hj => ?_⟩
                    by_cases hjn : j < F.np
                    · have e1 : (F.names.take F.np)[j]? = some t := by rw [List.getElem?_take, if_pos hjn]; exact hj
                      rw [h2] at e1
                      simp [hjn] at e1
                      subst e1
                      have e2 : (env0 F args).getD j .un = args[j]'(by omega) := by simp [env0, List.getD_eq_getElem?_getD, List.getElem?_append, hnp, hjn]
                      have e3 : (us.toArray ++ Array.replicate (fn.ntmps - us.toArray.size) undef).getD j undef = us[j]'(by omega) := by
                        rw [Array.getD_eq_getD_getElem?, Array.getElem?_append_left (by simpa using (by omega : j < us.length))]
                        simp [show j < us.length by omega]
                      rw [e2, e3]
                      exact hv.2 j _ _ (List.getElem?_eq_getElem _) (List.getElem?_eq_getElem _)
                    · have e2 : (env0 F args).getD j .un = .un := by
                        simp only [env0, List.getD_eq_getElem?_getD, List.getElem?_append]
                        rw [if_neg (by omega), List.getElem?_replicate]
                        split <;> rfl
                      rw [e2]; exact .un _
                  refine code_sound ih k F.body c _ μ H (env0 F args) _ w e s h7 hI hH hx ?_
                  intro ex a' w' ν he hI' hH' hxt
                  have fin : finish F (some (.norm, s)) = some out → a'.defers = [] ∧ ∃ v, (results fn a'.tmps).run P w' = .ok v w' ∧ OutR B μ H w out (.returned v) w' := by
                    intro h
                    simp only [finish] at h
                    split at h
                    · rename_i vs hvs
                      cases h
                      obtain ⟨us', hu1, hu2⟩ := res_sound (P := P) hI' hH' fn.results.toList F.res vs h6 hvs
                      refine ⟨hI'.defers, (if h : us'.toArray.size = 1 then us'.toArray[0] else .tuple us'.toArray), ?_, ?_⟩
                      · rw [results_eq, Sem.run_bind, Array.mapM_eq_mapM_toList, Sem.run_map, hu1]
                        simp only [Result.andThen_ok, Sem.run_pure]
                      · refine ⟨_, ν, rfl, ?_, hH', hxt⟩
                        match vs, us', hu2 with
                        | [v], [u], hu2 => simpa [pack] using hu2.head
                        | [], [], hu2 => simpa [pack] using VR.tup' (μ := ν) (ys := #[]) (by simpa using hu2)
                        | [v], [], hu2 => have := hu2.1; simp at this
                        | [], [u], hu2 => have := hu2.1; simp at this
                        | [v], u :: u' :: us', hu2 => have := hu2.1; simp at this
                        | v :: v' :: vs, [u], hu2 => have := hu2.1; simp at this
                        | [], u :: u' :: us', hu2 => have := hu2.1; simp at this
                        | v :: v' :: vs, [], hu2 => have := hu2.1; simp at this
                        | v :: v' :: vs, u :: u' :: us', hu2 => exact .tup' (by simpa using hu2)
                    · cases h
                  cases e with
                  | norm =>
                    cases ex <;> simp only [exR] at he
                    exact fin h
                  | ret =>
                    cases ex <;> simp only [exR] at he
                    exact fin h
                  | exit id => cases h
                  | pan v =>
                    cases ex <;> simp only [exR] at he
                    obtain ⟨u, rfl, hu⟩ := he
                    simp only [finish] at h; cases h
                    exact ⟨hI'.defers, u, ν, rfl, hu, hH', hxt⟩
        · cases h
end Go.Ai

/-- Where nobody asks, what is drawn is not counted. -/
instance (priority := low) Go.Ai.drModeNone : Go.Ai.DrMode := ⟨false⟩
/- Functions of the program (package carcanetlaw04) as code of the abstract machine: written by a program of this session out of the elaborated operations. -/
namespace Go.Ai.G
set_option maxRecDepth 100000
set_option linter.unusedVariables false
/-! 59: carcanet/carcanetlaw04.shown: 0: 1:p 2:a 3:b 4:l 5:m 6: -/
def r59_0 (φ : Nat → Nat) : List AOper := [
  ⟨0, .N .mv, [.c (.bool false)], none, 0⟩]
def r59_1 (φ : Nat → Nat) : List AOper := [
  ⟨0, .call (φ 60), [.c (.int .i64 4)], none, 0⟩,
  ⟨1, .N .mv, [.l 0], none, 0⟩]
def r59_2 (φ : Nat → Nat) : List AOper := [
  ⟨0, .N .mv, [.n 1], none, 0⟩,
  ⟨1, .N (.eqN 0 false), [.l 0, .c (.nilp)], none, 0⟩]
def r59_3 (φ : Nat → Nat) : List AOper := [
  ⟨0, .N .mv, [.c (.bool false)], none, 0⟩]
def r59_4 (φ : Nat → Nat) : List AOper := [
  ⟨0, .N .mv, [.n 1], none, 0⟩,
  ⟨1, .call (φ 64), [.l 0, .c (.int .i64 2), .c (.int .i64 0)], none, 0⟩,
  ⟨2, .N .mv, [.l 0], none, 0⟩]
def r59_5 (φ : Nat → Nat) : List AOper := [
  ⟨0, .N .mv, [.n 1], none, 0⟩,
  ⟨1, .call (φ 64), [.l 0, .c (.int .i64 0), .c (.int .i64 2)], none, 0⟩,
  ⟨2, .N .mv, [.l 0], none, 0⟩]
def r59_6 (φ : Nat → Nat) : List AOper := [
  ⟨0, .N .mv, [.n 1], none, 0⟩,
  ⟨1, .call (φ 68), [.l 0], none, 0⟩,
  ⟨2, .N .mv, [.l 0], none, 0⟩]
def r59_7 (φ : Nat → Nat) : List AOper := [
  ⟨0, .N (.build [.int .i64 0, .int .i64 0] [(0, 1), (1, 1)]), [.c (.int .i64 0), .c (.int .i64 2)], none, 0⟩,
  ⟨1, .N (.bsl [.int .i64 0, .int .i64 0] 1 2 [(0, 2)]), [.l 0], none, 0⟩,
  ⟨2, .N (.build [.int .i64 0, .nils] [(0, 1), (1, 1)]), [.c (.int .i64 3), .l 0], none, 0⟩,
  ⟨3, .calli false (φ 72), [.l 0], none, 0⟩,
  ⟨4, .N .mv, [.l 0], none, 0⟩]
def r59_8 (φ : Nat → Nat) : List AOper := [
  ⟨0, .N .mv, [.n 2], none, 0⟩,
  ⟨1, .N .mv, [.l 0], none, 0⟩,
  ⟨2, .N .mv, [.n 3], some (.l 0, true), 0⟩,
  ⟨3, .N (.un .not), [.l 0], some (.l 1, true), 0⟩,
  ⟨4, .N .pick, [.l 2, .l 0, .c (.bool false)], none, 0⟩,
  ⟨5, .N .mv, [.l 0], none, 0⟩,
  ⟨6, .N .mv, [.n 1], some (.l 0, true), 0⟩,
  ⟨7, .call (φ 62), [.l 0, .c (.int .i64 0), .c (.int .i64 2)], some (.l 1, true), 0⟩,
  ⟨8, .N .pick, [.l 2, .l 0, .c (.bool false)], none, 0⟩,
  ⟨9, .N .mv, [.l 0], none, 0⟩,
  ⟨10, .N .mv, [.n 1], some (.l 0, true), 0⟩,
  ⟨11, .call (φ 62), [.l 0, .c (.int .i64 0), .c (.int .i64 1)], some (.l 1, true), 0⟩,
  ⟨12, .N (.un .not), [.l 0], some (.l 2, true), 0⟩,
  ⟨13, .N .pick, [.l 3, .l 0, .c (.bool false)], none, 0⟩,
  ⟨14, .N .mv, [.l 0], none, 0⟩,
  ⟨15, .N .mv, [.n 1], some (.l 0, true), 0⟩,
  ⟨16, .call (φ 66), [.l 0], some (.l 1, true), 0⟩,
  ⟨17, .N (.bin .eql), [.l 0, .c (.int .i64 3)], some (.l 2, true), 0⟩,
  ⟨18, .N .pick, [.l 3, .l 0, .c (.bool false)], none, 0⟩,
  ⟨19, .N .mv, [.l 0], none, 0⟩,
  ⟨20, .N .mv, [.n 4], some (.l 0, true), 0⟩,
  ⟨21, .N .lenS, [.l 0], some (.l 1, true), 0⟩,
  ⟨22, .N (.bin .eql), [.l 0, .c (.int .i64 3)], some (.l 2, true), 0⟩,
  ⟨23, .N .pick, [.l 3, .l 0, .c (.bool false)], none, 0⟩,
  ⟨24, .N .mv, [.l 0], none, 0⟩,
  ⟨25, .N .mv, [.n 4], some (.l 0, true), 0⟩,
  ⟨26, .N (.idx 1), [.l 0, .c (.int .i64 0)], some (.l 1, true), 0⟩,
  ⟨27, .N .load1, [.l 0], some (.l 2, true), 0⟩,
  ⟨28, .N .lenS, [.l 0], some (.l 3, true), 0⟩,
  ⟨29, .N (.bin .eql), [.l 0, .c (.int .i64 2)], some (.l 4, true), 0⟩,
  ⟨30, .N .pick, [.l 5, .l 0, .c (.bool false)], none, 0⟩,
  ⟨31, .N .mv, [.l 0], none, 0⟩,
  ⟨32, .N .mv, [.n 4], some (.l 0, true), 0⟩,
  ⟨33, .N (.idx 1), [.l 0, .c (.int .i64 0)], some (.l 1, true), 0⟩,
  ⟨34, .N .load1, [.l 0], some (.l 2, true), 0⟩,
  ⟨35, .N (.idx 1), [.l 0, .c (.int .i64 1)], some (.l 3, true), 0⟩,
  ⟨36, .N .load1, [.l 0], some (.l 4, true), 0⟩,
  ⟨37, .N (.bin .eql), [.l 0, .c (.int .i64 2)], some (.l 5, true), 0⟩,
  ⟨38, .N .pick, [.l 6, .l 0, .c (.bool false)], none, 0⟩,
  ⟨39, .N .mv, [.l 0], none, 0⟩,
  ⟨40, .N .mv, [.n 4], some (.l 0, true), 0⟩,
  ⟨41, .N (.idx 1), [.l 0, .c (.int .i64 1)], some (.l 1, true), 0⟩,
  ⟨42, .N .load1, [.l 0], some (.l 2, true), 0⟩,
  ⟨43, .N (.idx 1), [.l 0, .c (.int .i64 0)], some (.l 3, true), 0⟩,
  ⟨44, .N .load1, [.l 0], some (.l 4, true), 0⟩,
  ⟨45, .N (.bin .eql), [.l 0, .c (.int .i64 1)], some (.l 5, true), 0⟩,
  ⟨46, .N .pick, [.l 6, .l 0, .c (.bool false)], none, 0⟩,
  ⟨47, .N .mv, [.l 0], none, 0⟩,
  ⟨48, .N .mv, [.n 5], some (.l 0, true), 0⟩,
  ⟨49, .N .lenS, [.l 0], some (.l 1, true), 0⟩,
  ⟨50, .N (.bin .eql), [.l 0, .c (.int .i64 2)], some (.l 2, true), 0⟩,
  ⟨51, .N .pick, [.l 3, .l 0, .c (.bool false)], none, 0⟩,
  ⟨52, .N .mv, [.l 0], none, 0⟩,
  ⟨53, .N .mv, [.n 5], some (.l 0, true), 0⟩,
  ⟨54, .N (.idx 1), [.l 0, .c (.int .i64 0)], some (.l 1, true), 0⟩,
  ⟨55, .N .load1, [.l 0], some (.l 2, true), 0⟩,
  ⟨56, .N .lenS, [.l 0], some (.l 3, true), 0⟩,
  ⟨57, .N (.bin .eql), [.l 0, .c (.int .i64 2)], some (.l 4, true), 0⟩,
  ⟨58, .N .pick, [.l 5, .l 0, .c (.bool false)], none, 0⟩,
  ⟨59, .N .mv, [.l 0], none, 0⟩,
  ⟨60, .N .mv, [.n 5], some (.l 0, true), 0⟩,
  ⟨61, .N (.idx 1), [.l 0, .c (.int .i64 1)], some (.l 1, true), 0⟩,
  ⟨62, .N .load1, [.l 0], some (.l 2, true), 0⟩,
  ⟨63, .N (.idx 1), [.l 0, .c (.int .i64 0)], some (.l 3, true), 0⟩,
  ⟨64, .N .load1, [.l 0], some (.l 4, true), 0⟩,
  ⟨65, .N (.bin .eql), [.l 0, .c (.int .i64 1)], some (.l 5, true), 0⟩,
  ⟨66, .N .pick, [.l 6, .l 0, .c (.bool false)], none, 0⟩,
  ⟨67, .N .mv, [.l 0], none, 0⟩]
def b59 (φ : Nat → Nat) : ACode := .seq (.reg false (r59_0 φ) [(0, 0)]) (.seq (.reg false (r59_1 φ) [(1, 0)]) (.seq (.seq (.reg false (r59_2 φ) [(6, 0)]) (.cond (.n 6) (.seq (.reg false (r59_3 φ) [(0, 0)]) (.ret)) (.skip))) (.seq (.reg false (r59_4 φ) [(2, 0)]) (.seq (.reg false (r59_5 φ) [(3, 0)]) (.seq (.reg false (r59_6 φ) [(4, 0)]) (.seq (.reg false (r59_7 φ) [(5, 0)]) (.seq (.reg false (r59_8 φ) [(0, 0)]) (.ret))))))))
def f59 (φ : Nat → Nat) : AFn := ⟨0, [0, 1, 2, 3, 4, 5, 8], 86, b59 φ, [.t 0]⟩
/-! 71: carcanet/carcanetlaw04.PartTells: 0:n 1:l 2: 3:head 4:p 5:q 6:i 7:before 8:want 9:x 10:y 11: 12: 13: -/
def r71_0 (φ : Nat → Nat) : List AOper := [
  ⟨0, .N .mv, [.c (.bool false)], none, 0⟩]
def r71_1 (φ : Nat → Nat) : List AOper := [
  ⟨0, .calli true (φ 59), [], none, 0⟩,
  ⟨1, .N .mv, [.l 0], none, 0⟩]
def r71_2 (φ : Nat → Nat) : List AOper := [
  ⟨0, .N .mv, [.n 0], none, 0⟩,
  ⟨1, .call (φ 60), [.l 0], none, 0⟩,
  ⟨2, .N .mv, [.l 0], none, 0⟩]
def r71_3 (φ : Nat → Nat) : List AOper := [
  ⟨0, .N .mv, [.n 0], none, 0⟩,
  ⟨1, .call (φ 61), [.l 0], none, 0⟩,
  ⟨2, .N .mv, [.l 0], none, 0⟩]
def r71_4 (φ : Nat → Nat) : List AOper := [
  ⟨0, .N .mv, [.n 4], none, 0⟩,
  ⟨1, .N (.eqN 0 false), [.l 0, .c (.nilp)], none, 0⟩]
def r71_5 (φ : Nat → Nat) : List AOper := [
  ⟨0, .N .mv, [.c (.bool false)], none, 0⟩]
def r71_6 (φ : Nat → Nat) : List AOper := [
  ⟨0, .N .mv, [.c (.int .i64 0)], none, 0⟩]
def r71_7 (φ : Nat → Nat) : List AOper := [
  ⟨0, .N .mv, [.n 6], none, 0⟩,
  ⟨1, .N .mv, [.n 1], none, 0⟩,
  ⟨2, .N .lenS, [.l 0], none, 0⟩,
  ⟨3, .N (.bin .lss), [.l 2, .l 0], none, 0⟩,
  ⟨4, .N .mv, [.l 0], none, 0⟩,
  ⟨5, .N .mv, [.n 6], some (.l 0, true), 0⟩,
  ⟨6, .N (.bin .lss), [.l 0, .c (.int .i64 60)], some (.l 1, true), 0⟩,
  ⟨7, .N .pick, [.l 2, .l 0, .c (.bool false)], none, 0⟩]
def r71_8 (φ : Nat → Nat) : List AOper := [
  ⟨0, .N .mv, [.n 4], none, 0⟩,
  ⟨1, .N .mv, [.n 1], none, 0⟩,
  ⟨2, .N .mv, [.n 6], none, 0⟩,
  ⟨3, .N (.idx 2), [.l 1, .l 0], none, 6⟩,
  ⟨4, .N (.fadd 0), [.l 0], none, 14⟩,
  ⟨5, .N .load1, [.l 0], none, 30⟩,
  ⟨6, .N .mv, [.n 1], none, 0⟩,
  ⟨7, .N .mv, [.n 6], none, 0⟩,
  ⟨8, .N (.idx 2), [.l 1, .l 0], none, 192⟩,
  ⟨9, .N (.fadd 1), [.l 0], none, 448⟩,
  ⟨10, .N .load1, [.l 0], none, 960⟩,
  ⟨11, .call (φ 62), [.l 10, .l 5, .l 0], none, 2047⟩,
  ⟨12, .N .mv, [.l 0], none, 4095⟩]
def r71_9 (φ : Nat → Nat) : List AOper := [
  ⟨0, .N .mv, [.n 5], none, 0⟩,
  ⟨1, .N .mv, [.n 1], none, 0⟩,
  ⟨2, .N .mv, [.n 6], none, 0⟩,
  ⟨3, .N (.idx 2), [.l 1, .l 0], none, 6⟩,
  ⟨4, .N (.fadd 0), [.l 0], none, 14⟩,
  ⟨5, .N .load1, [.l 0], none, 30⟩,
  ⟨6, .N .mv, [.n 1], none, 0⟩,
  ⟨7, .N .mv, [.n 6], none, 0⟩,
  ⟨8, .N (.idx 2), [.l 1, .l 0], none, 192⟩,
  ⟨9, .N (.fadd 1), [.l 0], none, 448⟩,
  ⟨10, .N .load1, [.l 0], none, 960⟩,
  ⟨11, .call (φ 63), [.l 10, .l 5, .l 0], none, 2047⟩,
  ⟨12, .N .mv, [.l 0], none, 4095⟩]
def r71_10 (φ : Nat → Nat) : List AOper := [
  ⟨0, .N .mv, [.n 4], none, 0⟩,
  ⟨1, .N .mv, [.n 1], none, 0⟩,
  ⟨2, .N .mv, [.n 6], none, 0⟩,
  ⟨3, .N (.idx 2), [.l 1, .l 0], none, 6⟩,
  ⟨4, .N (.fadd 0), [.l 0], none, 14⟩,
  ⟨5, .N .load1, [.l 0], none, 30⟩,
  ⟨6, .N .mv, [.n 1], none, 0⟩,
  ⟨7, .N .mv, [.n 6], none, 0⟩,
  ⟨8, .N (.idx 2), [.l 1, .l 0], none, 192⟩,
  ⟨9, .N (.fadd 1), [.l 0], none, 448⟩,
  ⟨10, .N .load1, [.l 0], none, 960⟩,
  ⟨11, .call (φ 64), [.l 10, .l 5, .l 0], none, 2047⟩,
  ⟨12, .N .mv, [.l 0], none, 4095⟩]
def r71_11 (φ : Nat → Nat) : List AOper := [
  ⟨0, .N .mv, [.n 5], none, 0⟩,
  ⟨1, .N .mv, [.n 1], none, 0⟩,
  ⟨2, .N .mv, [.n 6], none, 0⟩,
  ⟨3, .N (.idx 2), [.l 1, .l 0], none, 6⟩,
  ⟨4, .N (.fadd 0), [.l 0], none, 14⟩,
  ⟨5, .N .load1, [.l 0], none, 30⟩,
  ⟨6, .N .mv, [.n 1], none, 0⟩,
  ⟨7, .N .mv, [.n 6], none, 0⟩,
  ⟨8, .N (.idx 2), [.l 1, .l 0], none, 192⟩,
  ⟨9, .N (.fadd 1), [.l 0], none, 448⟩,
  ⟨10, .N .load1, [.l 0], none, 960⟩,
  ⟨11, .call (φ 65), [.l 10, .l 5, .l 0], none, 2047⟩,
  ⟨12, .N .mv, [.l 0], none, 4095⟩]
def r71_12 (φ : Nat → Nat) : List AOper := [
  ⟨0, .N .mv, [.n 7], none, 0⟩,
  ⟨1, .N .mv, [.n 8], none, 0⟩,
  ⟨2, .N (.eqB true), [.l 1, .l 0], none, 3⟩,
  ⟨3, .N .mv, [.l 0], none, 7⟩,
  ⟨4, .N .mv, [.n 9], some (.l 0, false), 15⟩,
  ⟨5, .N .mv, [.n 10], some (.l 1, false), 15⟩,
  ⟨6, .N (.eqB true), [.l 1, .l 0], some (.l 2, false), 63⟩,
  ⟨7, .N .pick, [.l 3, .c (.bool true), .l 0], none, 127⟩,
  ⟨8, .N .mv, [.l 0], none, 255⟩,
  ⟨9, .N .mv, [.n 4], some (.l 0, false), 511⟩,
  ⟨10, .N .mv, [.n 1], some (.l 1, false), 511⟩,
  ⟨11, .N .mv, [.n 6], some (.l 2, false), 511⟩,
  ⟨12, .N (.idx 2), [.l 1, .l 0], some (.l 3, false), 3583⟩,
  ⟨13, .N (.fadd 1), [.l 0], some (.l 4, false), 7679⟩,
  ⟨14, .N .load1, [.l 0], some (.l 5, false), 15871⟩,
  ⟨15, .N .mv, [.n 1], some (.l 6, false), 511⟩,
  ⟨16, .N .mv, [.n 6], some (.l 7, false), 511⟩,
  ⟨17, .N (.idx 2), [.l 1, .l 0], some (.l 8, false), 98815⟩,
  ⟨18, .N (.fadd 0), [.l 0], some (.l 9, false), 229887⟩,
  ⟨19, .N .load1, [.l 0], some (.l 10, false), 492031⟩,
  ⟨21, .N .mv, [.n 5], some (.l 11, false), 511⟩,
  ⟨22, .N .mv, [.n 1], some (.l 12, false), 511⟩,
  ⟨23, .N .mv, [.n 6], some (.l 13, false), 511⟩,
  ⟨24, .N (.idx 2), [.l 1, .l 0], some (.l 14, false), 6291967⟩,
  ⟨25, .N (.fadd 1), [.l 0], some (.l 15, false), 14680575⟩,
  ⟨26, .N .load1, [.l 0], some (.l 16, false), 31457791⟩,
  ⟨27, .N .mv, [.n 1], some (.l 17, false), 511⟩,
  ⟨28, .N .mv, [.n 6], some (.l 18, false), 511⟩,
  ⟨29, .N (.idx 2), [.l 1, .l 0], some (.l 19, false), 201327103⟩,
  ⟨30, .N (.fadd 0), [.l 0], some (.l 20, false), 469762559⟩,
  ⟨31, .N .load1, [.l 0], some (.l 21, false), 1006633471⟩,
  ⟨20, .call (φ 62), [.l 21, .l 16, .l 11], some (.l 22, false), 1048575⟩,
  ⟨32, .call (φ 63), [.l 11, .l 6, .l 1], some (.l 23, false), 4294967295⟩,
  ⟨33, .N (.eqB true), [.l 1, .l 0], some (.l 24, false), 8589934591⟩,
  ⟨34, .N .pick, [.l 25, .c (.bool true), .l 0], none, 17179869183⟩,
  ⟨35, .N .mv, [.l 0], none, 34359738367⟩,
  ⟨36, .N .mv, [.n 4], some (.l 0, false), 68719476735⟩,
  ⟨38, .N .mv, [.n 5], some (.l 1, false), 68719476735⟩,
  ⟨37, .call (φ 66), [.l 1], some (.l 2, false), 137438953471⟩,
  ⟨39, .call (φ 67), [.l 1], some (.l 3, false), 549755813887⟩,
  ⟨40, .N (.bin .neq), [.l 1, .l 0], some (.l 4, false), 1099511627775⟩,
  ⟨41, .N .pick, [.l 5, .c (.bool true), .l 0], none, 2199023255551⟩]
def r71_13 (φ : Nat → Nat) : List AOper := [
  ⟨0, .N .mv, [.c (.bool false)], none, 0⟩]
def r71_14 (φ : Nat → Nat) : List AOper := [
  ⟨0, .N .mv, [.n 6], none, 0⟩,
  ⟨1, .N (.bin .add), [.l 0, .c (.int .i64 1)], none, 0⟩,
  ⟨2, .N .mv, [.l 0], none, 0⟩]
def l71_15 (φ : Nat → Nat) : ACode := .seq (.seq (.reg false (r71_7 φ) [(12, 0)]) (.cond (.n 12) (.skip) (.exit 0))) (.seq (.block 1 (.seq (.reg true (r71_8 φ) [(7, 0)]) (.seq (.reg true (r71_9 φ) [(8, 0)]) (.seq (.reg true (r71_10 φ) [(9, 0)]) (.seq (.reg true (r71_11 φ) [(10, 0)]) (.seq (.reg true (r71_12 φ) [(13, 0)]) (.cond (.n 13) (.seq (.reg false (r71_13 φ) [(2, 0)]) (.ret)) (.skip)))))))) (.reg false (r71_14 φ) [(6, 0)]))
def r71_16 (φ : Nat → Nat) : List AOper := [
  ⟨0, .N .mv, [.n 3], none, 0⟩,
  ⟨1, .N .mv, [.l 0], none, 0⟩,
  ⟨2, .N .mv, [.n 4], some (.l 0, true), 0⟩,
  ⟨3, .call (φ 68), [.l 0], some (.l 1, true), 0⟩,
  ⟨4, .N .mv, [.n 5], some (.l 2, true), 0⟩,
  ⟨5, .call (φ 69), [.l 0], some (.l 3, true), 0⟩,
  ⟨6, .calli true (φ 70), [.l 2, .l 0], some (.l 4, true), 0⟩,
  ⟨7, .N .pick, [.l 5, .l 0, .c (.bool false)], none, 0⟩,
  ⟨8, .N .mv, [.l 0], none, 0⟩]
def b71 (φ : Nat → Nat) : ACode := .seq (.reg false (r71_0 φ) [(2, 0)]) (.seq (.reg false (r71_1 φ) [(3, 0)]) (.seq (.reg false (r71_2 φ) [(4, 0)]) (.seq (.reg false (r71_3 φ) [(5, 0)]) (.seq (.seq (.reg false (r71_4 φ) [(11, 0)]) (.cond (.n 11) (.seq (.reg false (r71_5 φ) [(2, 0)]) (.ret)) (.skip))) (.seq (.seq (.reg false (r71_6 φ) [(6, 0)]) (.block 0 (.loop (l71_15 φ)))) (.seq (.reg false (r71_16 φ) [(2, 0)]) (.ret)))))))
def f71 (φ : Nat → Nat) : AFn := ⟨2, [0, 1, 4, 5, 6, 7, 8, 9, 10, 11, 12, 19, 27, 119], 128, b71 φ, [.t 2]⟩
/-! 74: carcanet/carcanetlaw04.PartComponents: 0:g 1:g 2: 3:head -/
def r74_0 (φ : Nat → Nat) : List AOper := [
  ⟨0, .N .box, [.n 0], none, 0⟩,
  ⟨1, .N .mv, [.c (.bool false)], none, 0⟩]
def r74_1 (φ : Nat → Nat) : List AOper := [
  ⟨0, .calli true (φ 59), [], none, 0⟩,
  ⟨1, .N .mv, [.l 0], none, 0⟩]
def r74_2 (φ : Nat → Nat) : List AOper := [
  ⟨0, .N (.bsl [.int .i64 0, .int .i64 0] 0 2 []), [], none, 0⟩,
  ⟨1, .N (.fadd 1), [.n 1], none, 0⟩,
  ⟨2, .N .load1, [.l 0], none, 0⟩,
  ⟨3, .N (.fadd 1), [.n 1], none, 0⟩,
  ⟨4, .N .load1, [.l 0], none, 0⟩,
  ⟨5, .N .lenS, [.l 0], none, 0⟩,
  ⟨6, .N .min, [.l 0, .c (.int .i64 500)], none, 0⟩,
  ⟨7, .N (.slc 2 false true false), [.l 4, .l 0], none, 0⟩,
  ⟨8, .X (.app 2 16), [.l 7, .l 0], none, 0⟩,
  ⟨9, .N (.fadd 1), [.n 1], none, 0⟩,
  ⟨10, .X (.store 1), [.l 0, .l 1], none, 0⟩]
def r74_3 (φ : Nat → Nat) : List AOper := [
  ⟨0, .N .mv, [.n 3], none, 0⟩,
  ⟨1, .N .mv, [.l 0], none, 1⟩,
  ⟨2, .N (.loadN 2), [.n 1], some (.l 0, true), 3⟩,
  ⟨4, .N (.loadN 2), [.n 1], some (.l 1, true), 3⟩,
  ⟨3, .calli false (φ 72), [.l 1], some (.l 2, true), 7⟩,
  ⟨5, .calli false (φ 73), [.l 1], some (.l 3, true), 31⟩,
  ⟨6, .calli true (φ 70), [.l 1, .l 0], some (.l 4, true), 63⟩,
  ⟨7, .N .pick, [.l 5, .l 0, .c (.bool false)], none, 127⟩,
  ⟨8, .N .mv, [.l 0], none, 255⟩]
def b74 (φ : Nat → Nat) : ACode := .seq (.reg false (r74_0 φ) [(1, 1), (2, 0)]) (.seq (.reg false (r74_1 φ) [(3, 0)]) (.seq (.reg false (r74_2 φ) []) (.seq (.reg true (r74_3 φ) [(2, 0)]) (.ret))))
def f74 (φ : Nat → Nat) : AFn := ⟨1, [0, 1, 2, 3], 23, b74 φ, [.t 2]⟩
/-! 75: carcanet/carcanetlaw04.PartOrder: 0:n 1:l 2: 3:head 4:p 5:q 6:i 7:i 8: 9: 10: -/
def r75_0 (φ : Nat → Nat) : List AOper := [
  ⟨0, .N .mv, [.c (.bool false)], none, 0⟩]
def r75_1 (φ : Nat → Nat) : List AOper := [
  ⟨0, .calli true (φ 59), [], none, 0⟩,
  ⟨1, .N .mv, [.l 0], none, 0⟩]
def r75_2 (φ : Nat → Nat) : List AOper := [
  ⟨0, .N .mv, [.n 0], none, 0⟩,
  ⟨1, .N (.bin .and), [.l 0, .c (.int .i64 65535)], none, 0⟩,
  ⟨2, .N (.bin .rem), [.l 0, .c (.int .i64 60)], none, 0⟩,
  ⟨3, .N (.bin .add), [.c (.int .i64 1), .l 0], none, 0⟩,
  ⟨4, .N .mv, [.l 0], none, 0⟩]
def r75_3 (φ : Nat → Nat) : List AOper := [
  ⟨0, .N .mv, [.n 0], none, 0⟩,
  ⟨1, .call (φ 60), [.l 0], none, 0⟩,
  ⟨2, .N .mv, [.l 0], none, 0⟩]
def r75_4 (φ : Nat → Nat) : List AOper := [
  ⟨0, .N .mv, [.n 0], none, 0⟩,
  ⟨1, .call (φ 60), [.l 0], none, 0⟩,
  ⟨2, .N .mv, [.l 0], none, 0⟩]
def r75_5 (φ : Nat → Nat) : List AOper := [
  ⟨0, .N .mv, [.n 4], none, 0⟩,
  ⟨1, .N (.eqN 0 false), [.l 0, .c (.nilp)], none, 0⟩,
  ⟨2, .N .mv, [.l 0], none, 0⟩,
  ⟨3, .N .mv, [.n 5], some (.l 0, false), 0⟩,
  ⟨4, .N (.eqN 0 false), [.l 0, .c (.nilp)], some (.l 1, false), 0⟩,
  ⟨5, .N .pick, [.l 2, .c (.bool true), .l 0], none, 0⟩]
def r75_6 (φ : Nat → Nat) : List AOper := [
  ⟨0, .N .mv, [.c (.bool false)], none, 0⟩]
def r75_7 (φ : Nat → Nat) : List AOper := [
  ⟨0, .N .mv, [.n 1], none, 0⟩,
  ⟨1, .N .mv, [.n 1], none, 0⟩,
  ⟨2, .N .lenS, [.l 0], none, 0⟩,
  ⟨3, .N .min, [.l 0, .c (.int .i64 60)], none, 0⟩,
  ⟨4, .N (.slc 2 false true false), [.l 3, .l 0], none, 0⟩,
  ⟨5, .N .mv, [.l 0], none, 0⟩]
def r75_8 (φ : Nat → Nat) : List AOper := [
  ⟨0, .N .mv, [.c (.int .i64 0)], none, 0⟩]
def r75_9 (φ : Nat → Nat) : List AOper := [
  ⟨0, .N .mv, [.n 6], none, 0⟩,
  ⟨1, .N .mv, [.n 1], none, 0⟩,
  ⟨2, .N .lenS, [.l 0], none, 0⟩,
  ⟨3, .N (.bin .lss), [.l 2, .l 0], none, 0⟩]
def r75_10 (φ : Nat → Nat) : List AOper := [
  ⟨0, .N .mv, [.n 4], none, 0⟩,
  ⟨1, .N .mv, [.n 1], none, 0⟩,
  ⟨2, .N .mv, [.n 6], none, 0⟩,
  ⟨3, .N (.idx 2), [.l 1, .l 0], none, 6⟩,
  ⟨4, .N (.fadd 0), [.l 0], none, 14⟩,
  ⟨5, .N .load1, [.l 0], none, 30⟩,
  ⟨6, .N (.bin .and), [.l 0, .c (.int .i64 65535)], none, 62⟩,
  ⟨7, .N .mv, [.n 0], none, 0⟩,
  ⟨8, .N (.bin .rem), [.l 1, .l 0], none, 254⟩,
  ⟨9, .N .mv, [.n 1], none, 0⟩,
  ⟨10, .N .mv, [.n 6], none, 0⟩,
  ⟨11, .N (.idx 2), [.l 1, .l 0], none, 1536⟩,
  ⟨12, .N (.fadd 1), [.l 0], none, 3584⟩,
  ⟨13, .N .load1, [.l 0], none, 7680⟩,
  ⟨14, .N (.bin .and), [.l 0, .c (.int .i64 65535)], none, 15872⟩,
  ⟨15, .N .mv, [.n 0], none, 0⟩,
  ⟨16, .N (.bin .rem), [.l 1, .l 0], none, 65024⟩,
  ⟨17, .call (φ 64), [.l 16, .l 8, .l 0], none, 131071⟩]
def r75_11 (φ : Nat → Nat) : List AOper := [
  ⟨0, .N .mv, [.n 6], none, 0⟩,
  ⟨1, .N (.bin .add), [.l 0, .c (.int .i64 1)], none, 0⟩,
  ⟨2, .N .mv, [.l 0], none, 0⟩]
def l75_12 (φ : Nat → Nat) : ACode := .seq (.seq (.reg false (r75_9 φ) [(9, 0)]) (.cond (.n 9) (.skip) (.exit 0))) (.seq (.block 1 (.reg true (r75_10 φ) [])) (.reg false (r75_11 φ) [(6, 0)]))
def r75_13 (φ : Nat → Nat) : List AOper := [
  ⟨0, .N .mv, [.n 1], none, 0⟩,
  ⟨1, .N .lenS, [.l 0], none, 0⟩,
  ⟨2, .N (.bin .sub), [.l 0, .c (.int .i64 1)], none, 0⟩,
  ⟨3, .N .mv, [.l 0], none, 0⟩]
def r75_14 (φ : Nat → Nat) : List AOper := [
  ⟨0, .N .mv, [.n 7], none, 0⟩,
  ⟨1, .N (.bin .geq), [.l 0, .c (.int .i64 0)], none, 0⟩]
def r75_15 (φ : Nat → Nat) : List AOper := [
  ⟨0, .N .mv, [.n 5], none, 0⟩,
  ⟨1, .N .mv, [.n 1], none, 0⟩,
  ⟨2, .N .mv, [.n 7], none, 0⟩,
  ⟨3, .N (.idx 2), [.l 1, .l 0], none, 6⟩,
  ⟨4, .N (.fadd 1), [.l 0], none, 14⟩,
  ⟨5, .N .load1, [.l 0], none, 30⟩,
  ⟨6, .N (.bin .and), [.l 0, .c (.int .i64 65535)], none, 62⟩,
  ⟨7, .N .mv, [.n 0], none, 0⟩,
  ⟨8, .N (.bin .rem), [.l 1, .l 0], none, 254⟩,
  ⟨9, .N .mv, [.n 1], none, 0⟩,
  ⟨10, .N .mv, [.n 7], none, 0⟩,
  ⟨11, .N (.idx 2), [.l 1, .l 0], none, 1536⟩,
  ⟨12, .N (.fadd 0), [.l 0], none, 3584⟩,
  ⟨13, .N .load1, [.l 0], none, 7680⟩,
  ⟨14, .N (.bin .and), [.l 0, .c (.int .i64 65535)], none, 15872⟩,
  ⟨15, .N .mv, [.n 0], none, 0⟩,
  ⟨16, .N (.bin .rem), [.l 1, .l 0], none, 65024⟩,
  ⟨17, .call (φ 64), [.l 16, .l 8, .l 0], none, 131071⟩]
def r75_16 (φ : Nat → Nat) : List AOper := [
  ⟨0, .N .mv, [.n 7], none, 0⟩,
  ⟨1, .N (.bin .sub), [.l 0, .c (.int .i64 1)], none, 0⟩,
  ⟨2, .N .mv, [.l 0], none, 0⟩]
def l75_17 (φ : Nat → Nat) : ACode := .seq (.seq (.reg false (r75_14 φ) [(10, 0)]) (.cond (.n 10) (.skip) (.exit 2))) (.seq (.block 3 (.reg true (r75_15 φ) [])) (.reg false (r75_16 φ) [(7, 0)]))
def r75_18 (φ : Nat → Nat) : List AOper := [
  ⟨0, .N .mv, [.n 3], none, 0⟩,
  ⟨1, .N .mv, [.l 0], none, 0⟩,
  ⟨2, .N .mv, [.n 4], some (.l 0, true), 0⟩,
  ⟨3, .call (φ 68), [.l 0], some (.l 1, true), 0⟩,
  ⟨4, .N .mv, [.n 5], some (.l 2, true), 0⟩,
  ⟨5, .call (φ 68), [.l 0], some (.l 3, true), 0⟩,
  ⟨6, .calli true (φ 70), [.l 2, .l 0], some (.l 4, true), 0⟩,
  ⟨7, .N .pick, [.l 5, .l 0, .c (.bool false)], none, 0⟩,
  ⟨8, .N .mv, [.l 0], none, 0⟩,
  ⟨9, .N .mv, [.n 4], some (.l 0, true), 0⟩,
  ⟨10, .call (φ 66), [.l 0], some (.l 1, true), 0⟩,
  ⟨11, .N .mv, [.n 5], some (.l 2, true), 0⟩,
  ⟨12, .call (φ 66), [.l 0], some (.l 3, true), 0⟩,
  ⟨13, .N (.bin .eql), [.l 2, .l 0], some (.l 4, true), 0⟩,
  ⟨14, .N .pick, [.l 5, .l 0, .c (.bool false)], none, 0⟩,
  ⟨15, .N .mv, [.l 0], none, 0⟩]
def b75 (φ : Nat → Nat) : ACode := .seq (.reg false (r75_0 φ) [(2, 0)]) (.seq (.reg false (r75_1 φ) [(3, 0)]) (.seq (.reg false (r75_2 φ) [(0, 0)]) (.seq (.reg false (r75_3 φ) [(4, 0)]) (.seq (.reg false (r75_4 φ) [(5, 0)]) (.seq (.seq (.reg false (r75_5 φ) [(8, 0)]) (.cond (.n 8) (.seq (.reg false (r75_6 φ) [(2, 0)]) (.ret)) (.skip))) (.seq (.reg false (r75_7 φ) [(1, 0)]) (.seq (.seq (.reg false (r75_8 φ) [(6, 0)]) (.block 0 (.loop (l75_12 φ)))) (.seq (.seq (.reg false (r75_13 φ) [(7, 0)]) (.block 2 (.loop (l75_17 φ)))) (.seq (.reg false (r75_18 φ) [(2, 0)]) (.ret))))))))))
def f75 (φ : Nat → Nat) : AFn := ⟨2, [0, 1, 4, 5, 6, 7, 8, 9, 24, 33, 58], 94, b75 φ, [.t 2]⟩
/-! 76: carcanet/carcanetlaw04.PartCounts: 0:n 1:l 2: 3:head 4:p 5:left 6:i 7:a 8:b 9:were 10:joined 11:all 12:seen 13:last 14:i 15:k 16:v 17: 18: 19: 20: 21: 22: 23: -/
def r76_0 (φ : Nat → Nat) : List AOper := [
  ⟨0, .N .mv, [.c (.bool false)], none, 0⟩]
def r76_1 (φ : Nat → Nat) : List AOper := [
  ⟨0, .calli true (φ 59), [], none, 0⟩,
  ⟨1, .N .mv, [.l 0], none, 0⟩]
def r76_2 (φ : Nat → Nat) : List AOper := [
  ⟨0, .N .mv, [.n 0], none, 0⟩,
  ⟨1, .N (.bin .and), [.l 0, .c (.int .i64 65535)], none, 0⟩,
  ⟨2, .N (.bin .rem), [.l 0, .c (.int .i64 60)], none, 0⟩,
  ⟨3, .N (.bin .add), [.c (.int .i64 1), .l 0], none, 0⟩,
  ⟨4, .N .mv, [.l 0], none, 0⟩]
def r76_3 (φ : Nat → Nat) : List AOper := [
  ⟨0, .N .mv, [.n 0], none, 0⟩,
  ⟨1, .call (φ 60), [.l 0], none, 0⟩,
  ⟨2, .N .mv, [.l 0], none, 0⟩]
def r76_4 (φ : Nat → Nat) : List AOper := [
  ⟨0, .N .mv, [.n 4], none, 0⟩,
  ⟨1, .N (.eqN 0 false), [.l 0, .c (.nilp)], none, 0⟩]
def r76_5 (φ : Nat → Nat) : List AOper := [
  ⟨0, .N .mv, [.c (.bool false)], none, 0⟩]
def r76_6 (φ : Nat → Nat) : List AOper := [
  ⟨0, .N .mv, [.n 0], none, 0⟩,
  ⟨1, .N .mv, [.l 0], none, 0⟩]
def r76_7 (φ : Nat → Nat) : List AOper := [
  ⟨0, .N .mv, [.c (.int .i64 0)], none, 0⟩]
def r76_8 (φ : Nat → Nat) : List AOper := [
  ⟨0, .N .mv, [.n 6], none, 0⟩,
  ⟨1, .N .mv, [.n 1], none, 0⟩,
  ⟨2, .N .lenS, [.l 0], none, 0⟩,
  ⟨3, .N (.bin .lss), [.l 2, .l 0], none, 0⟩,
  ⟨4, .N .mv, [.l 0], none, 0⟩,
  ⟨5, .N .mv, [.n 6], some (.l 0, true), 0⟩,
  ⟨6, .N (.bin .lss), [.l 0, .c (.int .i64 60)], some (.l 1, true), 0⟩,
  ⟨7, .N .pick, [.l 2, .l 0, .c (.bool false)], none, 0⟩]
def r76_9 (φ : Nat → Nat) : List AOper := [
  ⟨0, .N .mv, [.n 1], none, 0⟩,
  ⟨1, .N .mv, [.n 6], none, 0⟩,
  ⟨2, .N (.idx 2), [.l 1, .l 0], none, 0⟩,
  ⟨3, .N (.fadd 0), [.l 0], none, 0⟩,
  ⟨4, .N .load1, [.l 0], none, 0⟩,
  ⟨5, .N (.bin .and), [.l 0, .c (.int .i64 65535)], none, 0⟩,
  ⟨6, .N .mv, [.n 0], none, 0⟩,
  ⟨7, .N (.bin .rem), [.l 1, .l 0], none, 0⟩,
  ⟨8, .N .mv, [.l 0], none, 0⟩]
def r76_10 (φ : Nat → Nat) : List AOper := [
  ⟨0, .N .mv, [.n 1], none, 0⟩,
  ⟨1, .N .mv, [.n 6], none, 0⟩,
  ⟨2, .N (.idx 2), [.l 1, .l 0], none, 0⟩,
  ⟨3, .N (.fadd 1), [.l 0], none, 0⟩,
  ⟨4, .N .load1, [.l 0], none, 0⟩,
  ⟨5, .N (.bin .and), [.l 0, .c (.int .i64 65535)], none, 0⟩,
  ⟨6, .N .mv, [.n 0], none, 0⟩,
  ⟨7, .N (.bin .rem), [.l 1, .l 0], none, 0⟩,
  ⟨8, .N .mv, [.l 0], none, 0⟩]
def r76_11 (φ : Nat → Nat) : List AOper := [
  ⟨0, .N .mv, [.n 4], none, 0⟩,
  ⟨1, .N .mv, [.n 7], none, 0⟩,
  ⟨2, .N .mv, [.n 8], none, 0⟩,
  ⟨3, .call (φ 62), [.l 2, .l 1, .l 0], none, 0⟩,
  ⟨4, .N .mv, [.l 0], none, 0⟩]
def r76_12 (φ : Nat → Nat) : List AOper := [
  ⟨0, .N .mv, [.n 4], none, 0⟩,
  ⟨1, .N .mv, [.n 7], none, 0⟩,
  ⟨2, .N .mv, [.n 8], none, 0⟩,
  ⟨3, .call (φ 64), [.l 2, .l 1, .l 0], none, 0⟩,
  ⟨4, .N .mv, [.l 0], none, 0⟩]
def r76_13 (φ : Nat → Nat) : List AOper := [
  ⟨0, .N .mv, [.n 9], none, 0⟩,
  ⟨1, .N .mv, [.n 10], none, 0⟩,
  ⟨2, .N (.eqB false), [.l 1, .l 0], none, 0⟩,
  ⟨3, .N .mv, [.l 0], none, 0⟩,
  ⟨4, .N .mv, [.n 4], some (.l 0, false), 0⟩,
  ⟨5, .N .mv, [.n 7], some (.l 1, false), 0⟩,
  ⟨6, .N .mv, [.n 8], some (.l 2, false), 0⟩,
  ⟨7, .call (φ 62), [.l 2, .l 1, .l 0], some (.l 3, false), 0⟩,
  ⟨8, .N (.un .not), [.l 0], some (.l 4, false), 0⟩,
  ⟨9, .N .pick, [.l 5, .c (.bool true), .l 0], none, 0⟩]
def r76_14 (φ : Nat → Nat) : List AOper := [
  ⟨0, .N .mv, [.c (.bool false)], none, 0⟩]
def r76_15 (φ : Nat → Nat) : List AOper := [
  ⟨0, .N .mv, [.n 6], none, 0⟩,
  ⟨1, .N (.bin .add), [.l 0, .c (.int .i64 1)], none, 0⟩,
  ⟨2, .N .mv, [.l 0], none, 0⟩]
def l76_16 (φ : Nat → Nat) : ACode := .seq (.seq (.reg false (r76_8 φ) [(18, 0)]) (.cond (.n 18) (.skip) (.exit 0))) (.seq (.block 1 (.seq (.reg false (r76_9 φ) [(7, 0)]) (.seq (.reg false (r76_10 φ) [(8, 0)]) (.seq (.reg false (r76_11 φ) [(9, 0)]) (.seq (.reg false (r76_12 φ) [(10, 0)]) (.seq (.reg false (r76_13 φ) [(19, 0)]) (.cond (.n 19) (.seq (.reg false (r76_14 φ) [(2, 0)]) (.ret)) (.skip)))))))) (.reg false (r76_15 φ) [(6, 0)]))
def r76_17 (φ : Nat → Nat) : List AOper := [
  ⟨0, .N .mv, [.n 4], none, 0⟩,
  ⟨1, .call (φ 68), [.l 0], none, 0⟩,
  ⟨2, .N .mv, [.l 0], none, 0⟩]
def r76_18 (φ : Nat → Nat) : List AOper := [
  ⟨0, .N .mv, [.n 0], none, 0⟩,
  ⟨1, .N (.mksl [.bool false] 1 1), [.l 0, .l 0], none, 0⟩,
  ⟨2, .N .mv, [.l 0], none, 0⟩]
def r76_19 (φ : Nat → Nat) : List AOper := [
  ⟨0, .N .mv, [.c (.int .i64 (-1))], none, 0⟩]
def r76_20 (φ : Nat → Nat) : List AOper := [
  ⟨0, .N .mv, [.c (.int .i64 0)], none, 0⟩]
def r76_21 (φ : Nat → Nat) : List AOper := [
  ⟨0, .N .mv, [.n 14], none, 0⟩,
  ⟨1, .N .mv, [.n 11], none, 0⟩,
  ⟨2, .N .lenS, [.l 0], none, 0⟩,
  ⟨3, .N (.bin .lss), [.l 2, .l 0], none, 0⟩]
def r76_22 (φ : Nat → Nat) : List AOper := [
  ⟨0, .N .mv, [.n 11], none, 0⟩,
  ⟨1, .N .mv, [.n 14], none, 0⟩,
  ⟨2, .N (.idx 1), [.l 1, .l 0], none, 0⟩,
  ⟨3, .N .load1, [.l 0], none, 0⟩,
  ⟨4, .N .lenS, [.l 0], none, 0⟩,
  ⟨5, .N (.bin .eql), [.l 0, .c (.int .i64 0)], none, 0⟩,
  ⟨6, .N .mv, [.l 0], none, 0⟩,
  ⟨7, .N .mv, [.n 11], some (.l 0, false), 0⟩,
  ⟨8, .N .mv, [.n 14], some (.l 1, false), 0⟩,
  ⟨9, .N (.idx 1), [.l 1, .l 0], some (.l 2, false), 0⟩,
  ⟨10, .N .load1, [.l 0], some (.l 3, false), 0⟩,
  ⟨11, .N (.idx 1), [.l 0, .c (.int .i64 0)], some (.l 4, false), 0⟩,
  ⟨12, .N .load1, [.l 0], some (.l 5, false), 0⟩,
  ⟨13, .N .mv, [.n 13], some (.l 6, false), 0⟩,
  ⟨14, .N (.bin .leq), [.l 1, .l 0], some (.l 7, false), 0⟩,
  ⟨15, .N .pick, [.l 8, .c (.bool true), .l 0], none, 0⟩]
def r76_23 (φ : Nat → Nat) : List AOper := [
  ⟨0, .N .mv, [.c (.bool false)], none, 0⟩]
def r76_24 (φ : Nat → Nat) : List AOper := [
  ⟨0, .N .mv, [.n 11], none, 0⟩,
  ⟨1, .N .mv, [.n 14], none, 0⟩,
  ⟨2, .N (.idx 1), [.l 1, .l 0], none, 0⟩,
  ⟨3, .N .load1, [.l 0], none, 0⟩,
  ⟨4, .N (.idx 1), [.l 0, .c (.int .i64 0)], none, 0⟩,
  ⟨5, .N .load1, [.l 0], none, 0⟩,
  ⟨6, .N .mv, [.l 0], none, 0⟩]
def r76_25 (φ : Nat → Nat) : List AOper := [
  ⟨0, .N .mv, [.c (.int .i64 0)], none, 0⟩]
def r76_26 (φ : Nat → Nat) : List AOper := [
  ⟨0, .N .mv, [.n 15], none, 0⟩,
  ⟨1, .N .mv, [.n 11], none, 0⟩,
  ⟨2, .N .mv, [.n 14], none, 0⟩,
  ⟨3, .N (.idx 1), [.l 1, .l 0], none, 0⟩,
  ⟨4, .N .load1, [.l 0], none, 0⟩,
  ⟨5, .N .lenS, [.l 0], none, 0⟩,
  ⟨6, .N (.bin .lss), [.l 5, .l 0], none, 0⟩]
def r76_27 (φ : Nat → Nat) : List AOper := [
  ⟨0, .N .mv, [.n 11], none, 0⟩,
  ⟨1, .N .mv, [.n 14], none, 0⟩,
  ⟨2, .N (.idx 1), [.l 1, .l 0], none, 0⟩,
  ⟨3, .N .load1, [.l 0], none, 0⟩,
  ⟨4, .N .mv, [.n 15], none, 0⟩,
  ⟨5, .N (.idx 1), [.l 1, .l 0], none, 0⟩,
  ⟨6, .N .load1, [.l 0], none, 0⟩,
  ⟨7, .N .mv, [.l 0], none, 0⟩]
def r76_28 (φ : Nat → Nat) : List AOper := [
  ⟨0, .N .mv, [.n 16], none, 0⟩,
  ⟨1, .N (.bin .lss), [.l 0, .c (.int .i64 0)], none, 0⟩,
  ⟨2, .N .mv, [.l 0], none, 0⟩,
  ⟨3, .N .mv, [.n 16], some (.l 0, false), 0⟩,
  ⟨4, .N .mv, [.n 0], some (.l 1, false), 0⟩,
  ⟨5, .N (.bin .geq), [.l 1, .l 0], some (.l 2, false), 0⟩,
  ⟨6, .N .pick, [.l 3, .c (.bool true), .l 0], none, 0⟩,
  ⟨7, .N .mv, [.l 0], none, 0⟩,
  ⟨8, .N .mv, [.n 12], some (.l 0, false), 0⟩,
  ⟨9, .N .mv, [.n 16], some (.l 1, false), 0⟩,
  ⟨10, .N (.idx 1), [.l 1, .l 0], some (.l 2, false), 0⟩,
  ⟨11, .N .load1, [.l 0], some (.l 3, false), 0⟩,
  ⟨12, .N .pick, [.l 4, .c (.bool true), .l 0], none, 0⟩,
  ⟨13, .N .mv, [.l 0], none, 0⟩,
  ⟨14, .N .mv, [.n 15], some (.l 0, false), 0⟩,
  ⟨15, .N (.bin .gtr), [.l 0, .c (.int .i64 0)], some (.l 1, false), 0⟩,
  ⟨16, .N .mv, [.l 0], some (.l 2, false), 0⟩,
  ⟨17, .N .mv, [.n 16], some (.l 0, true), 0⟩,
  ⟨18, .N .mv, [.n 11], some (.l 1, true), 0⟩,
  ⟨19, .N .mv, [.n 14], some (.l 2, true), 0⟩,
  ⟨20, .N (.idx 1), [.l 1, .l 0], some (.l 3, true), 0⟩,
  ⟨21, .N .load1, [.l 0], some (.l 4, true), 0⟩,
  ⟨22, .N .mv, [.n 15], some (.l 5, true), 0⟩,
  ⟨23, .N (.bin .sub), [.l 0, .c (.int .i64 1)], some (.l 6, true), 0⟩,
  ⟨24, .N (.idx 1), [.l 2, .l 0], some (.l 7, true), 0⟩,
  ⟨25, .N .load1, [.l 0], some (.l 8, true), 0⟩,
  ⟨26, .N (.bin .leq), [.l 8, .l 0], some (.l 9, true), 0⟩,
  ⟨27, .N .pick, [.l 10, .l 0, .c (.bool false)], some (.l 13, false), 0⟩,
  ⟨28, .N .pick, [.l 14, .c (.bool true), .l 0], none, 0⟩,
  ⟨29, .N .mv, [.l 0], none, 0⟩,
  ⟨30, .N .mv, [.n 4], some (.l 0, false), 0⟩,
  ⟨31, .N .mv, [.n 16], some (.l 1, false), 0⟩,
  ⟨32, .N .mv, [.n 13], some (.l 2, false), 0⟩,
  ⟨33, .call (φ 62), [.l 2, .l 1, .l 0], some (.l 3, false), 0⟩,
  ⟨34, .N (.un .not), [.l 0], some (.l 4, false), 0⟩,
  ⟨35, .N .pick, [.l 5, .c (.bool true), .l 0], none, 0⟩]
def r76_29 (φ : Nat → Nat) : List AOper := [
  ⟨0, .N .mv, [.c (.bool false)], none, 0⟩]
def r76_30 (φ : Nat → Nat) : List AOper := [
  ⟨0, .N .mv, [.n 12], none, 0⟩,
  ⟨1, .N .mv, [.n 16], none, 0⟩,
  ⟨2, .N (.idx 1), [.l 1, .l 0], none, 0⟩,
  ⟨3, .X (.store 1), [.l 0, .c (.bool true)], none, 0⟩]
def r76_31 (φ : Nat → Nat) : List AOper := [
  ⟨0, .N .mv, [.n 5], none, 0⟩,
  ⟨1, .N (.bin .sub), [.l 0, .c (.int .i64 1)], none, 0⟩,
  ⟨2, .N .mv, [.l 0], none, 0⟩]
def r76_32 (φ : Nat → Nat) : List AOper := [
  ⟨0, .N .mv, [.n 15], none, 0⟩,
  ⟨1, .N (.bin .add), [.l 0, .c (.int .i64 1)], none, 0⟩,
  ⟨2, .N .mv, [.l 0], none, 0⟩]
def l76_33 (φ : Nat → Nat) : ACode := .seq (.seq (.reg false (r76_26 φ) [(22, 0)]) (.cond (.n 22) (.skip) (.exit 4))) (.seq (.block 5 (.seq (.reg false (r76_27 φ) [(16, 0)]) (.seq (.seq (.reg false (r76_28 φ) [(23, 0)]) (.cond (.n 23) (.seq (.reg false (r76_29 φ) [(2, 0)]) (.ret)) (.skip))) (.seq (.reg false (r76_30 φ) []) (.reg false (r76_31 φ) [(5, 0)]))))) (.reg false (r76_32 φ) [(15, 0)]))
def r76_34 (φ : Nat → Nat) : List AOper := [
  ⟨0, .N .mv, [.n 14], none, 0⟩,
  ⟨1, .N (.bin .add), [.l 0, .c (.int .i64 1)], none, 0⟩,
  ⟨2, .N .mv, [.l 0], none, 0⟩]
def l76_35 (φ : Nat → Nat) : ACode := .seq (.seq (.reg false (r76_21 φ) [(20, 0)]) (.cond (.n 20) (.skip) (.exit 2))) (.seq (.block 3 (.seq (.seq (.reg false (r76_22 φ) [(21, 0)]) (.cond (.n 21) (.seq (.reg false (r76_23 φ) [(2, 0)]) (.ret)) (.skip))) (.seq (.reg false (r76_24 φ) [(13, 0)]) (.seq (.reg false (r76_25 φ) [(15, 0)]) (.block 4 (.loop (l76_33 φ))))))) (.reg false (r76_34 φ) [(14, 0)]))
def r76_36 (φ : Nat → Nat) : List AOper := [
  ⟨0, .N .mv, [.n 3], none, 0⟩,
  ⟨1, .N .mv, [.l 0], none, 0⟩,
  ⟨2, .N .mv, [.n 5], some (.l 0, true), 0⟩,
  ⟨3, .N (.bin .eql), [.l 0, .c (.int .i64 0)], some (.l 1, true), 0⟩,
  ⟨4, .N .pick, [.l 2, .l 0, .c (.bool false)], none, 0⟩,
  ⟨5, .N .mv, [.l 0], none, 0⟩,
  ⟨6, .N .mv, [.n 11], some (.l 0, true), 0⟩,
  ⟨7, .N .lenS, [.l 0], some (.l 1, true), 0⟩,
  ⟨8, .N .mv, [.n 4], some (.l 2, true), 0⟩,
  ⟨9, .call (φ 66), [.l 0], some (.l 3, true), 0⟩,
  ⟨10, .N (.bin .eql), [.l 2, .l 0], some (.l 4, true), 0⟩,
  ⟨11, .N .pick, [.l 5, .l 0, .c (.bool false)], none, 0⟩,
  ⟨12, .N .mv, [.l 0], none, 0⟩]
def b76 (φ : Nat → Nat) : ACode := .seq (.reg false (r76_0 φ) [(2, 0)]) (.seq (.reg false (r76_1 φ) [(3, 0)]) (.seq (.reg false (r76_2 φ) [(0, 0)]) (.seq (.reg false (r76_3 φ) [(4, 0)]) (.seq (.seq (.reg false (r76_4 φ) [(17, 0)]) (.cond (.n 17) (.seq (.reg false (r76_5 φ) [(2, 0)]) (.ret)) (.skip))) (.seq (.reg false (r76_6 φ) [(5, 0)]) (.seq (.seq (.reg false (r76_7 φ) [(6, 0)]) (.block 0 (.loop (l76_16 φ)))) (.seq (.reg false (r76_17 φ) [(11, 0)]) (.seq (.reg false (r76_18 φ) [(12, 0)]) (.seq (.reg false (r76_19 φ) [(13, 0)]) (.seq (.seq (.reg false (r76_20 φ) [(14, 0)]) (.block 2 (.loop (l76_35 φ)))) (.seq (.reg false (r76_36 φ) [(2, 0)]) (.ret))))))))))))
def f76 (φ : Nat → Nat) : AFn := ⟨2, [0, 1, 4, 5, 6, 7, 8, 9, 10, 11, 12, 13, 14, 15, 16, 17, 18, 27, 36, 72, 80, 98, 111, 156], 174, b76 φ, [.t 2]⟩
/-! 77: carcanet/carcanetlaw04.PartOwn: 0:n 1:l 2:x 3: 4:head 5:p 6:i 7:first 8:was 9:i 10:k 11: 12: 13: 14: -/
def r77_0 (φ : Nat → Nat) : List AOper := [
  ⟨0, .N .mv, [.c (.bool false)], none, 0⟩]
def r77_1 (φ : Nat → Nat) : List AOper := [
  ⟨0, .calli true (φ 59), [], none, 0⟩,
  ⟨1, .N .mv, [.l 0], none, 0⟩]
def r77_2 (φ : Nat → Nat) : List AOper := [
  ⟨0, .N .mv, [.n 0], none, 0⟩,
  ⟨1, .N (.bin .and), [.l 0, .c (.int .i64 65535)], none, 0⟩,
  ⟨2, .N (.bin .rem), [.l 0, .c (.int .i64 30)], none, 0⟩,
  ⟨3, .N (.bin .add), [.c (.int .i64 1), .l 0], none, 0⟩,
  ⟨4, .N .mv, [.l 0], none, 0⟩]
def r77_3 (φ : Nat → Nat) : List AOper := [
  ⟨0, .N .mv, [.n 0], none, 0⟩,
  ⟨1, .call (φ 60), [.l 0], none, 0⟩,
  ⟨2, .N .mv, [.l 0], none, 0⟩]
def r77_4 (φ : Nat → Nat) : List AOper := [
  ⟨0, .N .mv, [.n 5], none, 0⟩,
  ⟨1, .N (.eqN 0 false), [.l 0, .c (.nilp)], none, 0⟩]
def r77_5 (φ : Nat → Nat) : List AOper := [
  ⟨0, .N .mv, [.c (.bool false)], none, 0⟩]
def r77_6 (φ : Nat → Nat) : List AOper := [
  ⟨0, .N .mv, [.c (.int .i64 0)], none, 0⟩]
def r77_7 (φ : Nat → Nat) : List AOper := [
  ⟨0, .N .mv, [.n 6], none, 0⟩,
  ⟨1, .N .mv, [.n 1], none, 0⟩,
  ⟨2, .N .lenS, [.l 0], none, 0⟩,
  ⟨3, .N (.bin .lss), [.l 2, .l 0], none, 0⟩,
  ⟨4, .N .mv, [.l 0], none, 0⟩,
  ⟨5, .N .mv, [.n 6], some (.l 0, true), 0⟩,
  ⟨6, .N (.bin .lss), [.l 0, .c (.int .i64 30)], some (.l 1, true), 0⟩,
  ⟨7, .N .pick, [.l 2, .l 0, .c (.bool false)], none, 0⟩]
def r77_8 (φ : Nat → Nat) : List AOper := [
  ⟨0, .N .mv, [.n 5], none, 0⟩,
  ⟨1, .N .mv, [.n 1], none, 0⟩,
  ⟨2, .N .mv, [.n 6], none, 0⟩,
  ⟨3, .N (.idx 2), [.l 1, .l 0], none, 6⟩,
  ⟨4, .N (.fadd 0), [.l 0], none, 14⟩,
  ⟨5, .N .load1, [.l 0], none, 30⟩,
  ⟨6, .N (.bin .and), [.l 0, .c (.int .i64 65535)], none, 62⟩,
  ⟨7, .N .mv, [.n 0], none, 0⟩,
  ⟨8, .N (.bin .rem), [.l 1, .l 0], none, 254⟩,
  ⟨9, .N .mv, [.n 1], none, 0⟩,
  ⟨10, .N .mv, [.n 6], none, 0⟩,
  ⟨11, .N (.idx 2), [.l 1, .l 0], none, 1536⟩,
  ⟨12, .N (.fadd 1), [.l 0], none, 3584⟩,
  ⟨13, .N .load1, [.l 0], none, 7680⟩,
  ⟨14, .N (.bin .and), [.l 0, .c (.int .i64 65535)], none, 15872⟩,
  ⟨15, .N .mv, [.n 0], none, 0⟩,
  ⟨16, .N (.bin .rem), [.l 1, .l 0], none, 65024⟩,
  ⟨17, .call (φ 64), [.l 16, .l 8, .l 0], none, 131071⟩]
def r77_9 (φ : Nat → Nat) : List AOper := [
  ⟨0, .N .mv, [.n 6], none, 0⟩,
  ⟨1, .N (.bin .add), [.l 0, .c (.int .i64 1)], none, 0⟩,
  ⟨2, .N .mv, [.l 0], none, 0⟩]
def l77_10 (φ : Nat → Nat) : ACode := .seq (.seq (.reg false (r77_7 φ) [(12, 0)]) (.cond (.n 12) (.skip) (.exit 0))) (.seq (.block 1 (.reg true (r77_8 φ) [])) (.reg false (r77_9 φ) [(6, 0)]))
def r77_11 (φ : Nat → Nat) : List AOper := [
  ⟨0, .N .mv, [.n 5], none, 0⟩,
  ⟨1, .call (φ 68), [.l 0], none, 0⟩,
  ⟨2, .N .mv, [.l 0], none, 0⟩]
def r77_12 (φ : Nat → Nat) : List AOper := [
  ⟨0, .N (.bsl [.nils] 0 1 []), [], none, 0⟩,
  ⟨1, .N .mv, [.l 0], none, 0⟩]
def r77_13 (φ : Nat → Nat) : List AOper := [
  ⟨0, .N .mv, [.c (.int .i64 0)], none, 0⟩]
def r77_14 (φ : Nat → Nat) : List AOper := [
  ⟨0, .N .mv, [.n 9], none, 0⟩,
  ⟨1, .N .mv, [.n 7], none, 0⟩,
  ⟨2, .N .lenS, [.l 0], none, 0⟩,
  ⟨3, .N (.bin .lss), [.l 2, .l 0], none, 0⟩]
def r77_15 (φ : Nat → Nat) : List AOper := [
  ⟨0, .N .mv, [.n 8], none, 0⟩,
  ⟨1, .N (.bsl [.int .i64 0] 0 1 []), [], none, 0⟩,
  ⟨2, .N .mv, [.n 7], none, 0⟩,
  ⟨3, .N .mv, [.n 9], none, 0⟩,
  ⟨4, .N (.idx 1), [.l 1, .l 0], none, 0⟩,
  ⟨5, .N .load1, [.l 0], none, 0⟩,
  ⟨6, .X (.app 1 8), [.l 4, .l 0], none, 0⟩,
  ⟨7, .N (.bsl [.nils] 1 1 [(0, 1)]), [.l 0], none, 0⟩,
  ⟨8, .X (.app 1 24), [.l 7, .l 0], none, 0⟩,
  ⟨9, .N .mv, [.l 0], none, 0⟩]
def r77_16 (φ : Nat → Nat) : List AOper := [
  ⟨0, .N .mv, [.c (.int .i64 0)], none, 0⟩]
def r77_17 (φ : Nat → Nat) : List AOper := [
  ⟨0, .N .mv, [.n 10], none, 0⟩,
  ⟨1, .N .mv, [.n 7], none, 0⟩,
  ⟨2, .N .mv, [.n 9], none, 0⟩,
  ⟨3, .N (.idx 1), [.l 1, .l 0], none, 0⟩,
  ⟨4, .N .load1, [.l 0], none, 0⟩,
  ⟨5, .N .lenS, [.l 0], none, 0⟩,
  ⟨6, .N (.bin .lss), [.l 5, .l 0], none, 0⟩]
def r77_18 (φ : Nat → Nat) : List AOper := [
  ⟨0, .N .mv, [.n 7], none, 0⟩,
  ⟨1, .N .mv, [.n 9], none, 0⟩,
  ⟨2, .N (.idx 1), [.l 1, .l 0], none, 0⟩,
  ⟨3, .N .load1, [.l 0], none, 0⟩,
  ⟨4, .N .mv, [.n 10], none, 0⟩,
  ⟨5, .N .mv, [.n 2], none, 0⟩,
  ⟨6, .N (.idx 1), [.l 2, .l 1], none, 0⟩,
  ⟨7, .X (.store 1), [.l 0, .l 1], none, 0⟩]
def r77_19 (φ : Nat → Nat) : List AOper := [
  ⟨0, .N .mv, [.n 10], none, 0⟩,
  ⟨1, .N (.bin .add), [.l 0, .c (.int .i64 1)], none, 0⟩,
  ⟨2, .N .mv, [.l 0], none, 0⟩]
def l77_20 (φ : Nat → Nat) : ACode := .seq (.seq (.reg false (r77_17 φ) [(14, 0)]) (.cond (.n 14) (.skip) (.exit 4))) (.seq (.block 5 (.reg false (r77_18 φ) [])) (.reg false (r77_19 φ) [(10, 0)]))
def r77_21 (φ : Nat → Nat) : List AOper := [
  ⟨0, .N .mv, [.n 9], none, 0⟩,
  ⟨1, .N (.bin .add), [.l 0, .c (.int .i64 1)], none, 0⟩,
  ⟨2, .N .mv, [.l 0], none, 0⟩]
def l77_22 (φ : Nat → Nat) : ACode := .seq (.seq (.reg false (r77_14 φ) [(13, 0)]) (.cond (.n 13) (.skip) (.exit 2))) (.seq (.block 3 (.seq (.reg false (r77_15 φ) [(8, 0)]) (.seq (.reg false (r77_16 φ) [(10, 0)]) (.block 4 (.loop (l77_20 φ)))))) (.reg false (r77_21 φ) [(9, 0)]))
def r77_23 (φ : Nat → Nat) : List AOper := [
  ⟨0, .N .mv, [.n 4], none, 0⟩,
  ⟨1, .N .mv, [.l 0], none, 0⟩,
  ⟨2, .N .mv, [.n 5], some (.l 0, true), 0⟩,
  ⟨3, .call (φ 68), [.l 0], some (.l 1, true), 0⟩,
  ⟨4, .N .mv, [.n 8], some (.l 2, true), 0⟩,
  ⟨5, .calli true (φ 70), [.l 1, .l 0], some (.l 3, true), 0⟩,
  ⟨6, .N .pick, [.l 4, .l 0, .c (.bool false)], none, 0⟩,
  ⟨7, .N .mv, [.l 0], none, 0⟩]
def b77 (φ : Nat → Nat) : ACode := .seq (.reg false (r77_0 φ) [(3, 0)]) (.seq (.reg false (r77_1 φ) [(4, 0)]) (.seq (.reg false (r77_2 φ) [(0, 0)]) (.seq (.reg false (r77_3 φ) [(5, 0)]) (.seq (.seq (.reg false (r77_4 φ) [(11, 0)]) (.cond (.n 11) (.seq (.reg false (r77_5 φ) [(3, 0)]) (.ret)) (.skip))) (.seq (.seq (.reg false (r77_6 φ) [(6, 0)]) (.block 0 (.loop (l77_10 φ)))) (.seq (.reg false (r77_11 φ) [(7, 0)]) (.seq (.reg false (r77_12 φ) [(8, 0)]) (.seq (.seq (.reg false (r77_13 φ) [(9, 0)]) (.block 2 (.loop (l77_22 φ)))) (.seq (.reg false (r77_23 φ) [(3, 0)]) (.ret))))))))))
def f77 (φ : Nat → Nat) : AFn := ⟨3, [0, 1, 2, 6, 7, 8, 9, 10, 11, 12, 13, 22, 30, 57, 75], 92, b77 φ, [.t 3]⟩
/-! 78: carcanet/carcanetlaw04.PartEdges: 0:n 1:l 2: 3:head 4:g 5:all 6:of 7:count 8:i 9:k 10:v 11:i 12: 13: 14: 15: 16: -/
def r78_0 (φ : Nat → Nat) : List AOper := [
  ⟨0, .N .mv, [.c (.bool false)], none, 0⟩]
def r78_1 (φ : Nat → Nat) : List AOper := [
  ⟨0, .calli true (φ 59), [], none, 0⟩,
  ⟨1, .N .mv, [.l 0], none, 0⟩]
def r78_2 (φ : Nat → Nat) : List AOper := [
  ⟨0, .N .mv, [.n 0], none, 0⟩,
  ⟨1, .N .mv, [.n 1], none, 0⟩,
  ⟨2, .calli false (φ 22), [.l 1, .l 0, .c (.int .i64 50)], none, 0⟩,
  ⟨3, .N (.alloc [.int .i64 0, .nils]), [], none, 0⟩,
  ⟨4, .X (.store 2), [.l 0, .l 1], none, 0⟩]
def r78_3 (φ : Nat → Nat) : List AOper := [
  ⟨0, .N (.loadN 2), [.n 4], none, 0⟩,
  ⟨1, .calli false (φ 72), [.l 0], none, 0⟩,
  ⟨2, .N .mv, [.l 0], none, 0⟩]
def r78_4 (φ : Nat → Nat) : List AOper := [
  ⟨0, .N (.fadd 0), [.n 4], none, 0⟩,
  ⟨1, .N .load1, [.l 0], none, 0⟩,
  ⟨2, .N (.mksl [.int .i64 0] 1 8), [.l 0, .l 0], none, 0⟩,
  ⟨3, .N .mv, [.l 0], none, 0⟩]
def r78_5 (φ : Nat → Nat) : List AOper := [
  ⟨0, .N .mv, [.c (.int .i64 0)], none, 0⟩]
def r78_6 (φ : Nat → Nat) : List AOper := [
  ⟨0, .N .mv, [.c (.int .i64 0)], none, 0⟩]
def r78_7 (φ : Nat → Nat) : List AOper := [
  ⟨0, .N .mv, [.n 8], none, 0⟩,
  ⟨1, .N .mv, [.n 5], none, 0⟩,
  ⟨2, .N .lenS, [.l 0], none, 0⟩,
  ⟨3, .N (.bin .lss), [.l 2, .l 0], none, 0⟩]
def r78_8 (φ : Nat → Nat) : List AOper := [
  ⟨0, .N .mv, [.c (.int .i64 0)], none, 0⟩]
def r78_9 (φ : Nat → Nat) : List AOper := [
  ⟨0, .N .mv, [.n 9], none, 0⟩,
  ⟨1, .N .mv, [.n 5], none, 0⟩,
  ⟨2, .N .mv, [.n 8], none, 0⟩,
  ⟨3, .N (.idx 1), [.l 1, .l 0], none, 0⟩,
  ⟨4, .N .load1, [.l 0], none, 0⟩,
  ⟨5, .N .lenS, [.l 0], none, 0⟩,
  ⟨6, .N (.bin .lss), [.l 5, .l 0], none, 0⟩]
def r78_10 (φ : Nat → Nat) : List AOper := [
  ⟨0, .N .mv, [.n 5], none, 0⟩,
  ⟨1, .N .mv, [.n 8], none, 0⟩,
  ⟨2, .N (.idx 1), [.l 1, .l 0], none, 0⟩,
  ⟨3, .N .load1, [.l 0], none, 0⟩,
  ⟨4, .N .mv, [.n 9], none, 0⟩,
  ⟨5, .N (.idx 1), [.l 1, .l 0], none, 0⟩,
  ⟨6, .N .load1, [.l 0], none, 0⟩,
  ⟨7, .N .mv, [.l 0], none, 0⟩]
def r78_11 (φ : Nat → Nat) : List AOper := [
  ⟨0, .N .mv, [.n 10], none, 0⟩,
  ⟨1, .N (.bin .lss), [.l 0, .c (.int .i64 0)], none, 1⟩,
  ⟨2, .N .mv, [.l 0], none, 3⟩,
  ⟨3, .N .mv, [.n 10], some (.l 0, false), 7⟩,
  ⟨4, .N (.fadd 0), [.n 4], some (.l 1, false), 7⟩,
  ⟨5, .N .load1, [.l 0], some (.l 2, false), 23⟩,
  ⟨6, .N (.bin .geq), [.l 2, .l 0], some (.l 3, false), 63⟩,
  ⟨7, .N .pick, [.l 4, .c (.bool true), .l 0], none, 127⟩,
  ⟨8, .N .mv, [.l 0], none, 255⟩,
  ⟨9, .N .mv, [.n 6], some (.l 0, false), 511⟩,
  ⟨10, .N .mv, [.n 10], some (.l 1, false), 511⟩,
  ⟨11, .N (.idx 1), [.l 1, .l 0], some (.l 2, false), 2047⟩,
  ⟨12, .N .load1, [.l 0], some (.l 3, false), 4095⟩,
  ⟨13, .N (.bin .neq), [.l 0, .c (.int .i64 0)], some (.l 4, false), 8191⟩,
  ⟨14, .N .pick, [.l 5, .c (.bool true), .l 0], none, 16383⟩,
  ⟨15, .N .mv, [.l 0], none, 32767⟩,
  ⟨16, .N (.loadN 2), [.n 4], some (.l 0, false), 65535⟩,
  ⟨17, .N .mv, [.n 10], some (.l 1, false), 65535⟩,
  ⟨21, .N .mv, [.n 5], some (.l 2, false), 65535⟩,
  ⟨22, .N .mv, [.n 8], some (.l 3, false), 65535⟩,
  ⟨23, .N (.idx 1), [.l 1, .l 0], some (.l 4, false), 851967⟩,
  ⟨24, .N .load1, [.l 0], some (.l 5, false), 1900543⟩,
  ⟨25, .N .lenS, [.l 0], some (.l 6, false), 3997695⟩,
  ⟨26, .N (.bin .eql), [.l 0, .c (.int .i64 1)], some (.l 7, false), 8191999⟩,
  ⟨18, .calli false (φ 9), [.l 7, .l 6], some (.l 8, false), 262143⟩,
  ⟨19, .N .lenS, [.l 0], some (.l 9, false), 17039359⟩,
  ⟨20, .N (.bin .eql), [.l 0, .c (.int .i64 0)], some (.l 10, false), 50593791⟩,
  ⟨27, .N (.eqB true), [.l 0, .l 3], some (.l 11, false), 134217727⟩,
  ⟨28, .N .pick, [.l 12, .c (.bool true), .l 0], none, 268435455⟩]
def r78_12 (φ : Nat → Nat) : List AOper := [
  ⟨0, .N .mv, [.c (.bool false)], none, 0⟩]
def r78_13 (φ : Nat → Nat) : List AOper := [
  ⟨0, .N .mv, [.n 6], none, 0⟩,
  ⟨1, .N .mv, [.n 10], none, 0⟩,
  ⟨2, .N .mv, [.n 8], none, 0⟩,
  ⟨3, .N (.bin .add), [.l 0, .c (.int .i64 1)], none, 0⟩,
  ⟨4, .N (.idx 1), [.l 3, .l 2], none, 0⟩,
  ⟨5, .X (.store 1), [.l 0, .l 1], none, 0⟩]
def r78_14 (φ : Nat → Nat) : List AOper := [
  ⟨0, .N .mv, [.n 7], none, 0⟩,
  ⟨1, .N (.bin .add), [.l 0, .c (.int .i64 1)], none, 0⟩,
  ⟨2, .N .mv, [.l 0], none, 0⟩]
def r78_15 (φ : Nat → Nat) : List AOper := [
  ⟨0, .N .mv, [.n 9], none, 0⟩,
  ⟨1, .N (.bin .add), [.l 0, .c (.int .i64 1)], none, 0⟩,
  ⟨2, .N .mv, [.l 0], none, 0⟩]
def l78_16 (φ : Nat → Nat) : ACode := .seq (.seq (.reg false (r78_9 φ) [(13, 0)]) (.cond (.n 13) (.skip) (.exit 2))) (.seq (.block 3 (.seq (.reg false (r78_10 φ) [(10, 0)]) (.seq (.seq (.reg true (r78_11 φ) [(14, 0)]) (.cond (.n 14) (.seq (.reg false (r78_12 φ) [(2, 0)]) (.ret)) (.skip))) (.seq (.reg false (r78_13 φ) []) (.reg false (r78_14 φ) [(7, 0)]))))) (.reg false (r78_15 φ) [(9, 0)]))
def r78_17 (φ : Nat → Nat) : List AOper := [
  ⟨0, .N .mv, [.n 8], none, 0⟩,
  ⟨1, .N (.bin .add), [.l 0, .c (.int .i64 1)], none, 0⟩,
  ⟨2, .N .mv, [.l 0], none, 0⟩]
def l78_18 (φ : Nat → Nat) : ACode := .seq (.seq (.reg false (r78_7 φ) [(12, 0)]) (.cond (.n 12) (.skip) (.exit 0))) (.seq (.block 1 (.seq (.reg false (r78_8 φ) [(9, 0)]) (.block 2 (.loop (l78_16 φ))))) (.reg false (r78_17 φ) [(8, 0)]))
def r78_19 (φ : Nat → Nat) : List AOper := [
  ⟨0, .N .mv, [.c (.int .i64 0)], none, 0⟩]
def r78_20 (φ : Nat → Nat) : List AOper := [
  ⟨0, .N .mv, [.n 11], none, 0⟩,
  ⟨1, .N (.fadd 1), [.n 4], none, 0⟩,
  ⟨2, .N .load1, [.l 0], none, 0⟩,
  ⟨3, .N .lenS, [.l 0], none, 0⟩,
  ⟨4, .N (.bin .lss), [.l 3, .l 0], none, 0⟩]
def r78_21 (φ : Nat → Nat) : List AOper := [
  ⟨0, .N .mv, [.n 6], none, 0⟩,
  ⟨1, .N (.fadd 1), [.n 4], none, 0⟩,
  ⟨2, .N .load1, [.l 0], none, 2⟩,
  ⟨3, .N .mv, [.n 11], none, 0⟩,
  ⟨4, .N (.idx 2), [.l 1, .l 0], none, 14⟩,
  ⟨5, .N (.fadd 0), [.l 0], none, 30⟩,
  ⟨6, .N .load1, [.l 0], none, 62⟩,
  ⟨7, .N (.idx 1), [.l 6, .l 0], none, 127⟩,
  ⟨8, .N .load1, [.l 0], none, 255⟩,
  ⟨9, .N .mv, [.n 6], none, 0⟩,
  ⟨10, .N (.fadd 1), [.n 4], none, 0⟩,
  ⟨11, .N .load1, [.l 0], none, 1024⟩,
  ⟨12, .N .mv, [.n 11], none, 0⟩,
  ⟨13, .N (.idx 2), [.l 1, .l 0], none, 7168⟩,
  ⟨14, .N (.fadd 1), [.l 0], none, 15360⟩,
  ⟨15, .N .load1, [.l 0], none, 31744⟩,
  ⟨16, .N (.idx 1), [.l 6, .l 0], none, 65024⟩,
  ⟨17, .N .load1, [.l 0], none, 130560⟩,
  ⟨18, .N (.bin .neq), [.l 9, .l 0], none, 262143⟩]
def r78_22 (φ : Nat → Nat) : List AOper := [
  ⟨0, .N .mv, [.c (.bool false)], none, 0⟩]
def r78_23 (φ : Nat → Nat) : List AOper := [
  ⟨0, .N .mv, [.n 11], none, 0⟩,
  ⟨1, .N (.bin .add), [.l 0, .c (.int .i64 1)], none, 0⟩,
  ⟨2, .N .mv, [.l 0], none, 0⟩]
def l78_24 (φ : Nat → Nat) : ACode := .seq (.seq (.reg false (r78_20 φ) [(15, 0)]) (.cond (.n 15) (.skip) (.exit 4))) (.seq (.block 5 (.seq (.reg true (r78_21 φ) [(16, 0)]) (.cond (.n 16) (.seq (.reg false (r78_22 φ) [(2, 0)]) (.ret)) (.skip)))) (.reg false (r78_23 φ) [(11, 0)]))
def r78_25 (φ : Nat → Nat) : List AOper := [
  ⟨0, .N .mv, [.n 3], none, 0⟩,
  ⟨1, .N .mv, [.l 0], none, 0⟩,
  ⟨2, .N .mv, [.n 7], some (.l 0, true), 0⟩,
  ⟨3, .N (.fadd 0), [.n 4], some (.l 1, true), 0⟩,
  ⟨4, .N .load1, [.l 0], some (.l 2, true), 0⟩,
  ⟨5, .N (.bin .eql), [.l 2, .l 0], some (.l 3, true), 0⟩,
  ⟨6, .N .pick, [.l 4, .l 0, .c (.bool false)], none, 0⟩,
  ⟨7, .N .mv, [.l 0], none, 0⟩]
def b78 (φ : Nat → Nat) : ACode := .seq (.reg false (r78_0 φ) [(2, 0)]) (.seq (.reg false (r78_1 φ) [(3, 0)]) (.seq (.reg false (r78_2 φ) [(4, 1)]) (.seq (.reg false (r78_3 φ) [(5, 0)]) (.seq (.reg false (r78_4 φ) [(6, 0)]) (.seq (.reg false (r78_5 φ) [(7, 0)]) (.seq (.seq (.reg false (r78_6 φ) [(8, 0)]) (.block 0 (.loop (l78_18 φ)))) (.seq (.seq (.reg false (r78_19 φ) [(11, 0)]) (.block 4 (.loop (l78_24 φ)))) (.seq (.reg false (r78_25 φ) [(2, 0)]) (.ret)))))))))
def f78 (φ : Nat → Nat) : AFn := ⟨2, [0, 1, 4, 5, 6, 7, 8, 9, 10, 11, 12, 13, 26, 35, 73, 85, 106], 114, b78 φ, [.t 2]⟩
/-! 79: carcanet/carcanetlaw04.PartBridge: 0:n 1:l 2:ends 3:ends 4: 5:head 6:g 7:a 8:b 9:h 10:e 11:x 12:y 13:one 14:i 15: 16: 17: -/
def r79_0 (φ : Nat → Nat) : List AOper := [
  ⟨0, .N .box, [.n 2], none, 0⟩,
  ⟨1, .N .mv, [.c (.bool false)], none, 0⟩]
def r79_1 (φ : Nat → Nat) : List AOper := [
  ⟨0, .calli true (φ 59), [], none, 0⟩,
  ⟨1, .N .mv, [.l 0], none, 0⟩]
def r79_2 (φ : Nat → Nat) : List AOper := [
  ⟨0, .N .mv, [.n 0], none, 0⟩,
  ⟨1, .N .mv, [.n 1], none, 0⟩,
  ⟨2, .calli false (φ 22), [.l 1, .l 0, .c (.int .i64 50)], none, 0⟩,
  ⟨3, .N (.alloc [.int .i64 0, .nils]), [], none, 0⟩,
  ⟨4, .X (.store 2), [.l 0, .l 1], none, 0⟩]
def r79_3 (φ : Nat → Nat) : List AOper := [
  ⟨0, .N (.fadd 0), [.n 6], none, 0⟩,
  ⟨1, .N .load1, [.l 0], none, 0⟩,
  ⟨2, .N (.bin .lss), [.l 0, .c (.int .i64 2)], none, 0⟩]
def r79_4 (φ : Nat → Nat) : List AOper := [
  ⟨0, .N .mv, [.n 5], none, 0⟩,
  ⟨1, .N .mv, [.l 0], none, 0⟩]
def r79_5 (φ : Nat → Nat) : List AOper := [
  ⟨0, .N (.idxA 2 1), [.n 3, .c (.int .i64 0)], none, 0⟩,
  ⟨1, .N .load1, [.l 0], none, 0⟩,
  ⟨2, .N (.bin .and), [.l 0, .c (.int .i64 65535)], none, 0⟩,
  ⟨3, .N (.fadd 0), [.n 6], none, 0⟩,
  ⟨4, .N .load1, [.l 0], none, 0⟩,
  ⟨5, .N (.bin .rem), [.l 2, .l 0], none, 0⟩,
  ⟨6, .N .mv, [.l 0], none, 0⟩]
def r79_6 (φ : Nat → Nat) : List AOper := [
  ⟨0, .N .mv, [.n 7], none, 0⟩,
  ⟨1, .N (.bin .add), [.l 0, .c (.int .i64 1)], none, 1⟩,
  ⟨2, .N (.idxA 2 1), [.n 3, .c (.int .i64 1)], none, 0⟩,
  ⟨3, .N .load1, [.l 0], none, 4⟩,
  ⟨4, .N (.bin .and), [.l 0, .c (.int .i64 65535)], none, 12⟩,
  ⟨5, .N (.fadd 0), [.n 6], none, 0⟩,
  ⟨6, .N .load1, [.l 0], none, 32⟩,
  ⟨7, .N (.bin .sub), [.l 0, .c (.int .i64 1)], none, 96⟩,
  ⟨8, .N (.bin .rem), [.l 3, .l 0], none, 252⟩,
  ⟨9, .N (.bin .add), [.l 7, .l 0], none, 511⟩,
  ⟨10, .N (.fadd 0), [.n 6], none, 0⟩,
  ⟨11, .N .load1, [.l 0], none, 1024⟩,
  ⟨12, .N (.bin .rem), [.l 2, .l 0], none, 4095⟩,
  ⟨13, .N .mv, [.l 0], none, 8191⟩]
def r79_7 (φ : Nat → Nat) : List AOper := [
  ⟨0, .N (.loadN 2), [.n 6], none, 0⟩,
  ⟨1, .N .mv, [.n 7], none, 0⟩,
  ⟨2, .N .mv, [.n 8], none, 0⟩,
  ⟨3, .calli false (φ 15), [.l 2, .l 1, .l 0], none, 0⟩,
  ⟨4, .N .mv, [.l 0], none, 0⟩,
  ⟨5, .N (.ext 0), [.l 0], none, 0⟩,
  ⟨6, .N (.ext 1), [.l 1], none, 0⟩,
  ⟨7, .N (.alloc [.int .i64 0, .nils]), [], none, 0⟩,
  ⟨8, .X (.store 2), [.l 0, .l 2], none, 0⟩,
  ⟨9, .N .mv, [.l 2], none, 0⟩]
def r79_8 (φ : Nat → Nat) : List AOper := [
  ⟨0, .N .mv, [.n 10], none, 0⟩,
  ⟨1, .N (.bin .neq), [.l 0, .c (.int .i64 0)], none, 0⟩]
def r79_9 (φ : Nat → Nat) : List AOper := [
  ⟨0, .N .mv, [.c (.bool false)], none, 0⟩]
def r79_10 (φ : Nat → Nat) : List AOper := [
  ⟨0, .N (.loadN 2), [.n 6], none, 0⟩,
  ⟨1, .calli false (φ 72), [.l 0], none, 0⟩,
  ⟨2, .N .mv, [.l 0], none, 0⟩]
def r79_11 (φ : Nat → Nat) : List AOper := [
  ⟨0, .N (.loadN 2), [.n 9], none, 0⟩,
  ⟨1, .calli false (φ 72), [.l 0], none, 0⟩,
  ⟨2, .N .mv, [.l 0], none, 0⟩]
def r79_12 (φ : Nat → Nat) : List AOper := [
  ⟨0, .N .mv, [.c (.bool false)], none, 0⟩]
def r79_13 (φ : Nat → Nat) : List AOper := [
  ⟨0, .N .mv, [.c (.int .i64 0)], none, 0⟩]
def r79_14 (φ : Nat → Nat) : List AOper := [
  ⟨0, .N .mv, [.n 14], none, 0⟩,
  ⟨1, .N .mv, [.n 11], none, 0⟩,
  ⟨2, .N .lenS, [.l 0], none, 0⟩,
  ⟨3, .N (.bin .lss), [.l 2, .l 0], none, 0⟩]
def r79_15 (φ : Nat → Nat) : List AOper := [
  ⟨0, .N .mv, [.n 13], none, 0⟩,
  ⟨1, .N .mv, [.l 0], none, 0⟩,
  ⟨2, .N .mv, [.n 11], some (.l 0, false), 0⟩,
  ⟨3, .N .mv, [.n 14], some (.l 1, false), 0⟩,
  ⟨4, .N (.idx 1), [.l 1, .l 0], some (.l 2, false), 0⟩,
  ⟨5, .N .load1, [.l 0], some (.l 3, false), 0⟩,
  ⟨6, .N .mv, [.n 7], some (.l 4, false), 0⟩,
  ⟨7, .calli true (φ 25), [.l 1, .l 0], some (.l 5, false), 0⟩,
  ⟨8, .N .mv, [.l 0], some (.l 6, false), 0⟩,
  ⟨9, .N .mv, [.n 11], some (.l 0, true), 0⟩,
  ⟨10, .N .mv, [.n 14], some (.l 1, true), 0⟩,
  ⟨11, .N (.idx 1), [.l 1, .l 0], some (.l 2, true), 0⟩,
  ⟨12, .N .load1, [.l 0], some (.l 3, true), 0⟩,
  ⟨13, .N .mv, [.n 8], some (.l 4, true), 0⟩,
  ⟨14, .calli true (φ 25), [.l 1, .l 0], some (.l 5, true), 0⟩,
  ⟨15, .N .pick, [.l 6, .l 0, .c (.bool false)], some (.l 13, false), 0⟩,
  ⟨16, .N .pick, [.l 14, .c (.bool true), .l 0], none, 0⟩,
  ⟨17, .N .mv, [.l 0], none, 0⟩]
def r79_16 (φ : Nat → Nat) : List AOper := [
  ⟨0, .N .mv, [.n 14], none, 0⟩,
  ⟨1, .N (.bin .add), [.l 0, .c (.int .i64 1)], none, 0⟩,
  ⟨2, .N .mv, [.l 0], none, 0⟩]
def l79_17 (φ : Nat → Nat) : ACode := .seq (.seq (.reg false (r79_14 φ) [(17, 0)]) (.cond (.n 17) (.skip) (.exit 0))) (.seq (.block 1 (.reg false (r79_15 φ) [(13, 0)])) (.reg false (r79_16 φ) [(14, 0)]))
def r79_18 (φ : Nat → Nat) : List AOper := [
  ⟨0, .N .mv, [.n 5], none, 0⟩,
  ⟨1, .N .mv, [.l 0], none, 0⟩,
  ⟨2, .N .mv, [.n 13], some (.l 0, true), 0⟩,
  ⟨3, .N .mv, [.l 0], some (.l 1, true), 0⟩,
  ⟨4, .N .mv, [.n 12], some (.l 0, true), 0⟩,
  ⟨5, .N .lenS, [.l 0], some (.l 1, true), 0⟩,
  ⟨6, .N .mv, [.n 11], some (.l 2, true), 0⟩,
  ⟨7, .N .lenS, [.l 0], some (.l 3, true), 0⟩,
  ⟨8, .N (.bin .eql), [.l 2, .l 0], some (.l 4, true), 0⟩,
  ⟨9, .N .pick, [.l 5, .l 0, .c (.bool false)], some (.l 7, true), 0⟩,
  ⟨10, .N .mv, [.l 0], some (.l 8, true), 0⟩,
  ⟨11, .N .mv, [.n 13], some (.l 0, false), 0⟩,
  ⟨12, .N (.un .not), [.l 0], some (.l 1, false), 0⟩,
  ⟨13, .N .mv, [.l 0], some (.l 2, false), 0⟩,
  ⟨14, .N .mv, [.n 12], some (.l 0, true), 0⟩,
  ⟨15, .N .lenS, [.l 0], some (.l 1, true), 0⟩,
  ⟨16, .N .mv, [.n 11], some (.l 2, true), 0⟩,
  ⟨17, .N .lenS, [.l 0], some (.l 3, true), 0⟩,
  ⟨18, .N (.bin .sub), [.l 0, .c (.int .i64 1)], some (.l 4, true), 0⟩,
  ⟨19, .N (.bin .eql), [.l 3, .l 0], some (.l 5, true), 0⟩,
  ⟨20, .N .pick, [.l 6, .l 0, .c (.bool false)], some (.l 9, false), 0⟩,
  ⟨21, .N .pick, [.l 10, .c (.bool true), .l 0], some (.l 19, true), 0⟩,
  ⟨22, .N .pick, [.l 20, .l 0, .c (.bool false)], none, 0⟩,
  ⟨23, .N .mv, [.l 0], none, 0⟩]
def b79 (φ : Nat → Nat) : ACode := .seq (.reg false (r79_0 φ) [(3, 1), (4, 0)]) (.seq (.reg false (r79_1 φ) [(5, 0)]) (.seq (.reg false (r79_2 φ) [(6, 1)]) (.seq (.seq (.reg false (r79_3 φ) [(15, 0)]) (.cond (.n 15) (.seq (.reg false (r79_4 φ) [(4, 0)]) (.ret)) (.skip))) (.seq (.reg false (r79_5 φ) [(7, 0)]) (.seq (.reg true (r79_6 φ) [(8, 0)]) (.seq (.reg false (r79_7 φ) [(9, 2), (10, 0)]) (.seq (.seq (.reg false (r79_8 φ) [(16, 0)]) (.cond (.n 16) (.seq (.reg false (r79_9 φ) [(4, 0)]) (.ret)) (.skip))) (.seq (.reg false (r79_10 φ) [(11, 0)]) (.seq (.reg false (r79_11 φ) [(12, 0)]) (.seq (.reg false (r79_12 φ) [(13, 0)]) (.seq (.seq (.reg false (r79_13 φ) [(14, 0)]) (.block 0 (.loop (l79_17 φ)))) (.seq (.reg false (r79_18 φ) [(4, 0)]) (.ret)))))))))))))
def f79 (φ : Nat → Nat) : AFn := ⟨3, [0, 1, 2, 5, 6, 7, 8, 9, 10, 11, 12, 13, 14, 15, 16, 23, 52, 60], 103, b79 φ, [.t 4]⟩
end Go.Ai.G
/- Functions of the program (package carcanetref03) as code of the abstract machine: written by a program of this session out of the elaborated operations. -/
namespace Go.Ai.G
set_option maxRecDepth 100000
set_option linter.unusedVariables false
/-! 2: carcanet/carcanetref03.Normal: 0:n 1:l 2: 3: 4:up 5:i 6:a 7:b 8:lo 9:g 10:a 11:row 12:i 13: 14: 15: 16: 17: 18: 19: 20: -/
def r2_0 (φ : Nat → Nat) : List AOper := [
  ⟨0, .N (.alloc [.int .i64 0, .nils]), [], none, 0⟩,
  ⟨1, .N .mv, [.c (.int .i64 0)], none, 0⟩]
def r2_1 (φ : Nat → Nat) : List AOper := [
  ⟨0, .N .mv, [.n 0], none, 0⟩,
  ⟨1, .N (.bin .lss), [.l 0, .c (.int .i64 0)], none, 0⟩]
def r2_2 (φ : Nat → Nat) : List AOper := [
  ⟨0, .N (.build [.int .i64 0, .nils] []), [], none, 0⟩,
  ⟨1, .X (.store 2), [.n 2, .l 0], none, 0⟩,
  ⟨2, .N .mv, [.c (.int .i64 1)], none, 0⟩]
def r2_3 (φ : Nat → Nat) : List AOper := [
  ⟨0, .N .mv, [.n 0], none, 0⟩,
  ⟨1, .N (.bin .gtr), [.l 0, .c (.int .i64 1000)], none, 0⟩]
def r2_4 (φ : Nat → Nat) : List AOper := [
  ⟨0, .N (.build [.int .i64 0, .nils] []), [], none, 0⟩,
  ⟨1, .X (.store 2), [.n 2, .l 0], none, 0⟩,
  ⟨2, .N .mv, [.c (.int .i64 5)], none, 0⟩]
def r2_5 (φ : Nat → Nat) : List AOper := [
  ⟨0, .N .mv, [.n 0], none, 0⟩,
  ⟨1, .N (.mksl [.nils] 1 24), [.l 0, .l 0], none, 0⟩,
  ⟨2, .N .mv, [.l 0], none, 0⟩]
def r2_6 (φ : Nat → Nat) : List AOper := [
  ⟨0, .N .mv, [.c (.int .i64 0)], none, 0⟩]
def r2_7 (φ : Nat → Nat) : List AOper := [
  ⟨0, .N .mv, [.n 5], none, 0⟩,
  ⟨1, .N .mv, [.n 1], none, 0⟩,
  ⟨2, .N .lenS, [.l 0], none, 0⟩,
  ⟨3, .N (.bin .lss), [.l 2, .l 0], none, 0⟩]
def r2_8 (φ : Nat → Nat) : List AOper := [
  ⟨0, .N .mv, [.n 1], none, 0⟩,
  ⟨1, .N .mv, [.n 5], none, 0⟩,
  ⟨2, .N (.idx 2), [.l 1, .l 0], none, 0⟩,
  ⟨3, .N (.fadd 0), [.l 0], none, 0⟩,
  ⟨4, .N .load1, [.l 0], none, 0⟩,
  ⟨5, .N .mv, [.l 0], none, 0⟩]
def r2_9 (φ : Nat → Nat) : List AOper := [
  ⟨0, .N .mv, [.n 1], none, 0⟩,
  ⟨1, .N .mv, [.n 5], none, 0⟩,
  ⟨2, .N (.idx 2), [.l 1, .l 0], none, 0⟩,
  ⟨3, .N (.fadd 1), [.l 0], none, 0⟩,
  ⟨4, .N .load1, [.l 0], none, 0⟩,
  ⟨5, .N .mv, [.l 0], none, 0⟩]
def r2_10 (φ : Nat → Nat) : List AOper := [
  ⟨0, .N .mv, [.n 6], none, 0⟩,
  ⟨1, .N (.bin .lss), [.l 0, .c (.int .i64 0)], none, 0⟩,
  ⟨2, .N .mv, [.l 0], none, 0⟩,
  ⟨3, .N .mv, [.n 7], some (.l 0, false), 0⟩,
  ⟨4, .N (.bin .lss), [.l 0, .c (.int .i64 0)], some (.l 1, false), 0⟩,
  ⟨5, .N .pick, [.l 2, .c (.bool true), .l 0], none, 0⟩,
  ⟨6, .N .mv, [.l 0], none, 0⟩,
  ⟨7, .N .mv, [.n 6], some (.l 0, false), 0⟩,
  ⟨8, .N .mv, [.n 0], some (.l 1, false), 0⟩,
  ⟨9, .N (.bin .geq), [.l 1, .l 0], some (.l 2, false), 0⟩,
  ⟨10, .N .pick, [.l 3, .c (.bool true), .l 0], none, 0⟩,
  ⟨11, .N .mv, [.l 0], none, 0⟩,
  ⟨12, .N .mv, [.n 7], some (.l 0, false), 0⟩,
  ⟨13, .N .mv, [.n 0], some (.l 1, false), 0⟩,
  ⟨14, .N (.bin .geq), [.l 1, .l 0], some (.l 2, false), 0⟩,
  ⟨15, .N .pick, [.l 3, .c (.bool true), .l 0], none, 0⟩]
def r2_11 (φ : Nat → Nat) : List AOper := [
  ⟨0, .N (.build [.int .i64 0, .nils] []), [], none, 0⟩,
  ⟨1, .X (.store 2), [.n 2, .l 0], none, 0⟩,
  ⟨2, .N .mv, [.c (.int .i64 4)], none, 0⟩]
def r2_12 (φ : Nat → Nat) : List AOper := [
  ⟨0, .N .mv, [.n 6], none, 0⟩,
  ⟨1, .N .mv, [.n 7], none, 0⟩,
  ⟨2, .N .min, [.l 1, .l 0], none, 0⟩,
  ⟨3, .N .mv, [.l 0], none, 0⟩]
def r2_13 (φ : Nat → Nat) : List AOper := [
  ⟨0, .N .mv, [.n 6], none, 0⟩,
  ⟨1, .N .mv, [.n 7], none, 0⟩,
  ⟨2, .N (.bin .neq), [.l 1, .l 0], none, 0⟩,
  ⟨3, .N .mv, [.l 0], none, 0⟩,
  ⟨4, .N .mv, [.n 4], some (.l 0, true), 0⟩,
  ⟨5, .N .mv, [.n 8], some (.l 1, true), 0⟩,
  ⟨6, .N (.idx 1), [.l 1, .l 0], some (.l 2, true), 0⟩,
  ⟨7, .N .load1, [.l 0], some (.l 3, true), 0⟩,
  ⟨8, .N .mv, [.n 6], some (.l 4, true), 0⟩,
  ⟨9, .N .mv, [.n 7], some (.l 5, true), 0⟩,
  ⟨10, .N .max, [.l 1, .l 0], some (.l 6, true), 0⟩,
  ⟨11, .calli true (φ 25), [.l 3, .l 0], some (.l 7, true), 0⟩,
  ⟨12, .N (.un .not), [.l 0], some (.l 8, true), 0⟩,
  ⟨13, .N .pick, [.l 9, .l 0, .c (.bool false)], none, 0⟩]
def r2_14 (φ : Nat → Nat) : List AOper := [
  ⟨0, .N .mv, [.n 4], none, 0⟩,
  ⟨1, .N .mv, [.n 8], none, 0⟩,
  ⟨2, .N .mv, [.n 4], none, 0⟩,
  ⟨3, .N .mv, [.n 8], none, 0⟩,
  ⟨4, .N (.idx 1), [.l 1, .l 0], none, 0⟩,
  ⟨5, .N .load1, [.l 0], none, 0⟩,
  ⟨6, .N .mv, [.n 6], none, 0⟩,
  ⟨7, .N .mv, [.n 7], none, 0⟩,
  ⟨8, .N .max, [.l 1, .l 0], none, 0⟩,
  ⟨9, .N (.bsl [.int .i64 0] 1 1 [(0, 1)]), [.l 0], none, 0⟩,
  ⟨10, .X (.app 1 8), [.l 4, .l 0], none, 0⟩,
  ⟨11, .N (.idx 1), [.l 10, .l 9], none, 0⟩,
  ⟨12, .X (.store 1), [.l 0, .l 1], none, 0⟩]
def r2_15 (φ : Nat → Nat) : List AOper := [
  ⟨0, .N .mv, [.n 5], none, 0⟩,
  ⟨1, .N (.bin .add), [.l 0, .c (.int .i64 1)], none, 0⟩,
  ⟨2, .N .mv, [.l 0], none, 0⟩]
def l2_16 (φ : Nat → Nat) : ACode := .seq (.seq (.reg false (r2_7 φ) [(15, 0)]) (.cond (.n 15) (.skip) (.exit 0))) (.seq (.block 1 (.seq (.reg false (r2_8 φ) [(6, 0)]) (.seq (.reg false (r2_9 φ) [(7, 0)]) (.seq (.seq (.reg false (r2_10 φ) [(16, 0)]) (.cond (.n 16) (.seq (.reg false (r2_11 φ) [(3, 0)]) (.ret)) (.skip))) (.seq (.reg false (r2_12 φ) [(8, 0)]) (.seq (.reg false (r2_13 φ) [(17, 0)]) (.cond (.n 17) (.reg false (r2_14 φ) []) (.skip)))))))) (.reg false (r2_15 φ) [(5, 0)]))
def r2_17 (φ : Nat → Nat) : List AOper := [
  ⟨0, .N .mv, [.n 0], none, 0⟩,
  ⟨1, .N (.build [.int .i64 0, .nils] [(0, 1)]), [.l 0], none, 0⟩,
  ⟨2, .N (.alloc [.int .i64 0, .nils]), [], none, 0⟩,
  ⟨3, .X (.store 2), [.l 0, .l 1], none, 0⟩]
def r2_18 (φ : Nat → Nat) : List AOper := [
  ⟨0, .N .mv, [.c (.int .i64 0)], none, 0⟩]
def r2_19 (φ : Nat → Nat) : List AOper := [
  ⟨0, .N .mv, [.n 10], none, 0⟩,
  ⟨1, .N .mv, [.n 0], none, 0⟩,
  ⟨2, .N (.bin .lss), [.l 1, .l 0], none, 0⟩]
def r2_20 (φ : Nat → Nat) : List AOper := [
  ⟨0, .N .mv, [.n 4], none, 0⟩,
  ⟨1, .N .mv, [.n 10], none, 0⟩,
  ⟨2, .N (.idx 1), [.l 1, .l 0], none, 0⟩,
  ⟨3, .N .load1, [.l 0], none, 0⟩,
  ⟨4, .calli false (φ 30), [.l 0], none, 0⟩,
  ⟨5, .N .mv, [.l 0], none, 0⟩]
def r2_21 (φ : Nat → Nat) : List AOper := [
  ⟨0, .N .mv, [.c (.int .i64 0)], none, 0⟩]
def r2_22 (φ : Nat → Nat) : List AOper := [
  ⟨0, .N .mv, [.n 12], none, 0⟩,
  ⟨1, .N .mv, [.n 11], none, 0⟩,
  ⟨2, .N .lenS, [.l 0], none, 0⟩,
  ⟨3, .N (.bin .lss), [.l 2, .l 0], none, 0⟩]
def r2_23 (φ : Nat → Nat) : List AOper := [
  ⟨0, .N (.fadd 1), [.n 9], none, 0⟩,
  ⟨1, .N .load1, [.l 0], none, 1⟩,
  ⟨2, .N .mv, [.n 10], none, 0⟩,
  ⟨3, .N .mv, [.n 11], none, 0⟩,
  ⟨4, .N .mv, [.n 12], none, 0⟩,
  ⟨5, .N (.idx 1), [.l 1, .l 0], none, 24⟩,
  ⟨6, .N .load1, [.l 0], none, 56⟩,
  ⟨7, .N (.build [.int .i64 0, .int .i64 0] [(0, 1), (1, 1)]), [.l 4, .l 0], none, 124⟩,
  ⟨8, .N (.bsl [.int .i64 0, .int .i64 0] 1 2 [(0, 2)]), [.l 0], none, 252⟩,
  ⟨9, .X (.app 2 16), [.l 7, .l 0], none, 511⟩,
  ⟨10, .N (.fadd 1), [.n 9], none, 1023⟩,
  ⟨11, .X (.store 1), [.l 0, .l 1], none, 2047⟩]
def r2_24 (φ : Nat → Nat) : List AOper := [
  ⟨0, .N .mv, [.n 12], none, 0⟩,
  ⟨1, .N (.bin .add), [.l 0, .c (.int .i64 1)], none, 0⟩,
  ⟨2, .N .mv, [.l 0], none, 0⟩]
def l2_25 (φ : Nat → Nat) : ACode := .seq (.seq (.reg false (r2_22 φ) [(19, 0)]) (.cond (.n 19) (.skip) (.exit 4))) (.seq (.block 5 (.reg true (r2_23 φ) [])) (.reg false (r2_24 φ) [(12, 0)]))
def r2_26 (φ : Nat → Nat) : List AOper := [
  ⟨0, .N .mv, [.n 10], none, 0⟩,
  ⟨1, .N (.bin .add), [.l 0, .c (.int .i64 1)], none, 0⟩,
  ⟨2, .N .mv, [.l 0], none, 0⟩]
def l2_27 (φ : Nat → Nat) : ACode := .seq (.seq (.reg false (r2_19 φ) [(18, 0)]) (.cond (.n 18) (.skip) (.exit 2))) (.seq (.block 3 (.seq (.reg false (r2_20 φ) [(11, 0)]) (.seq (.reg false (r2_21 φ) [(12, 0)]) (.block 4 (.loop (l2_25 φ)))))) (.reg false (r2_26 φ) [(10, 0)]))
def r2_28 (φ : Nat → Nat) : List AOper := [
  ⟨0, .N (.fadd 1), [.n 9], none, 0⟩,
  ⟨1, .N .load1, [.l 0], none, 0⟩,
  ⟨2, .N .lenS, [.l 0], none, 0⟩,
  ⟨3, .N (.bin .gtr), [.l 0, .c (.int .i64 4000)], none, 0⟩]
def r2_29 (φ : Nat → Nat) : List AOper := [
  ⟨0, .N (.build [.int .i64 0, .nils] []), [], none, 0⟩,
  ⟨1, .X (.store 2), [.n 2, .l 0], none, 0⟩,
  ⟨2, .N .mv, [.c (.int .i64 5)], none, 0⟩]
def r2_30 (φ : Nat → Nat) : List AOper := [
  ⟨0, .N (.loadN 2), [.n 9], none, 0⟩,
  ⟨1, .X (.store 2), [.n 2, .l 0], none, 0⟩,
  ⟨2, .N .mv, [.c (.int .i64 0)], none, 0⟩]
def b2 (φ : Nat → Nat) : ACode := .seq (.reg false (r2_0 φ) [(2, 1), (3, 0)]) (.seq (.seq (.reg false (r2_1 φ) [(13, 0)]) (.cond (.n 13) (.seq (.reg false (r2_2 φ) [(3, 0)]) (.ret)) (.skip))) (.seq (.seq (.reg false (r2_3 φ) [(14, 0)]) (.cond (.n 14) (.seq (.reg false (r2_4 φ) [(3, 0)]) (.ret)) (.skip))) (.seq (.reg false (r2_5 φ) [(4, 0)]) (.seq (.seq (.reg false (r2_6 φ) [(5, 0)]) (.block 0 (.loop (l2_16 φ)))) (.seq (.reg false (r2_17 φ) [(9, 1)]) (.seq (.seq (.reg false (r2_18 φ) [(10, 0)]) (.block 2 (.loop (l2_27 φ)))) (.seq (.seq (.reg false (r2_28 φ) [(20, 0)]) (.cond (.n 20) (.seq (.reg false (r2_29 φ) [(3, 0)]) (.ret)) (.skip))) (.seq (.reg false (r2_30 φ) [(3, 0)]) (.ret)))))))))
def f2 (φ : Nat → Nat) : AFn := ⟨2, [0, 1, 4, 5, 6, 7, 8, 9, 10, 11, 12, 13, 14, 16, 19, 26, 54, 72, 89, 100, 117], 120, b2 φ, [.cell 2 (some 2), .t 3]⟩
/-! 3: carcanet/carcanetref03.SameGraph: 0:a 1:b 2:a 3:b 4: -/
/-! 6: carcanet/carcanetref03.Right: 0:g 1:g 2: 3:i 4:x 5: 6: 7: 8: -/
def r6_0 (φ : Nat → Nat) : List AOper := [
  ⟨0, .N .box, [.n 0], none, 0⟩,
  ⟨1, .N .mv, [.c (.bool false)], none, 0⟩]
def r6_1 (φ : Nat → Nat) : List AOper := [
  ⟨0, .N (.fadd 0), [.n 1], none, 0⟩,
  ⟨1, .N .load1, [.l 0], none, 0⟩,
  ⟨2, .N (.bin .lss), [.l 0, .c (.int .i64 0)], none, 0⟩,
  ⟨3, .N .mv, [.l 0], none, 0⟩,
  ⟨4, .N (.fadd 0), [.n 1], some (.l 0, false), 0⟩,
  ⟨5, .N .load1, [.l 0], some (.l 1, false), 0⟩,
  ⟨6, .N (.bin .gtr), [.l 0, .c (.int .i64 1000)], some (.l 2, false), 0⟩,
  ⟨7, .N .pick, [.l 3, .c (.bool true), .l 0], none, 0⟩,
  ⟨8, .N .mv, [.l 0], none, 0⟩,
  ⟨9, .N (.fadd 1), [.n 1], some (.l 0, false), 0⟩,
  ⟨10, .N .load1, [.l 0], some (.l 1, false), 0⟩,
  ⟨11, .N .lenS, [.l 0], some (.l 2, false), 0⟩,
  ⟨12, .N (.bin .gtr), [.l 0, .c (.int .i64 4000)], some (.l 3, false), 0⟩,
  ⟨13, .N .pick, [.l 4, .c (.bool true), .l 0], none, 0⟩]
def r6_2 (φ : Nat → Nat) : List AOper := [
  ⟨0, .N .mv, [.c (.bool false)], none, 0⟩]
def r6_3 (φ : Nat → Nat) : List AOper := [
  ⟨0, .N .mv, [.c (.int .i64 0)], none, 0⟩]
def r6_4 (φ : Nat → Nat) : List AOper := [
  ⟨0, .N .mv, [.n 3], none, 0⟩,
  ⟨1, .N (.fadd 1), [.n 1], none, 0⟩,
  ⟨2, .N .load1, [.l 0], none, 0⟩,
  ⟨3, .N .lenS, [.l 0], none, 0⟩,
  ⟨4, .N (.bin .lss), [.l 3, .l 0], none, 0⟩]
def r6_5 (φ : Nat → Nat) : List AOper := [
  ⟨0, .N (.fadd 1), [.n 1], none, 0⟩,
  ⟨1, .N .load1, [.l 0], none, 0⟩,
  ⟨2, .N .mv, [.n 3], none, 0⟩,
  ⟨3, .N (.idx 2), [.l 1, .l 0], none, 0⟩,
  ⟨4, .N (.loadN 2), [.l 0], none, 0⟩,
  ⟨5, .N (.alloc [.int .i64 0, .int .i64 0]), [], none, 0⟩,
  ⟨6, .X (.store 2), [.l 0, .l 1], none, 0⟩]
def r6_6 (φ : Nat → Nat) : List AOper := [
  ⟨0, .N (.fadd 0), [.n 4], none, 0⟩,
  ⟨1, .N .load1, [.l 0], none, 0⟩,
  ⟨2, .N (.bin .lss), [.l 0, .c (.int .i64 0)], none, 0⟩,
  ⟨3, .N .mv, [.l 0], none, 0⟩,
  ⟨4, .N (.fadd 1), [.n 4], some (.l 0, false), 0⟩,
  ⟨5, .N .load1, [.l 0], some (.l 1, false), 0⟩,
  ⟨6, .N (.fadd 0), [.n 1], some (.l 2, false), 0⟩,
  ⟨7, .N .load1, [.l 0], some (.l 3, false), 0⟩,
  ⟨8, .N (.bin .geq), [.l 2, .l 0], some (.l 4, false), 0⟩,
  ⟨9, .N .pick, [.l 5, .c (.bool true), .l 0], none, 0⟩,
  ⟨10, .N .mv, [.l 0], none, 0⟩,
  ⟨11, .N (.fadd 0), [.n 4], some (.l 0, false), 0⟩,
  ⟨12, .N .load1, [.l 0], some (.l 1, false), 0⟩,
  ⟨13, .N (.fadd 1), [.n 4], some (.l 2, false), 0⟩,
  ⟨14, .N .load1, [.l 0], some (.l 3, false), 0⟩,
  ⟨15, .N (.bin .geq), [.l 2, .l 0], some (.l 4, false), 0⟩,
  ⟨16, .N .pick, [.l 5, .c (.bool true), .l 0], none, 0⟩]
def r6_7 (φ : Nat → Nat) : List AOper := [
  ⟨0, .N .mv, [.c (.bool false)], none, 0⟩]
def r6_8 (φ : Nat → Nat) : List AOper := [
  ⟨0, .N .mv, [.n 3], none, 0⟩,
  ⟨1, .N (.bin .gtr), [.l 0, .c (.int .i64 0)], none, 1⟩,
  ⟨2, .N .mv, [.l 0], none, 3⟩,
  ⟨3, .N (.fadd 1), [.n 1], some (.l 0, true), 7⟩,
  ⟨4, .N .load1, [.l 0], some (.l 1, true), 15⟩,
  ⟨5, .N .mv, [.n 3], some (.l 2, true), 7⟩,
  ⟨6, .N (.bin .sub), [.l 0, .c (.int .i64 1)], some (.l 3, true), 39⟩,
  ⟨7, .N (.idx 2), [.l 2, .l 0], some (.l 4, true), 127⟩,
  ⟨8, .N (.fadd 0), [.l 0], some (.l 5, true), 255⟩,
  ⟨9, .N .load1, [.l 0], some (.l 6, true), 511⟩,
  ⟨10, .N (.fadd 0), [.n 4], some (.l 7, true), 7⟩,
  ⟨11, .N .load1, [.l 0], some (.l 8, true), 1031⟩,
  ⟨12, .N (.bin .gtr), [.l 2, .l 0], some (.l 9, true), 4095⟩,
  ⟨13, .N .mv, [.l 0], some (.l 10, true), 8191⟩,
  ⟨14, .N (.fadd 1), [.n 1], some (.l 0, false), 16383⟩,
  ⟨15, .N .load1, [.l 0], some (.l 1, false), 32767⟩,
  ⟨16, .N .mv, [.n 3], some (.l 2, false), 16383⟩,
  ⟨17, .N (.bin .sub), [.l 0, .c (.int .i64 1)], some (.l 3, false), 81919⟩,
  ⟨18, .N (.idx 2), [.l 2, .l 0], some (.l 4, false), 262143⟩,
  ⟨19, .N (.fadd 0), [.l 0], some (.l 5, false), 524287⟩,
  ⟨20, .N .load1, [.l 0], some (.l 6, false), 1048575⟩,
  ⟨21, .N (.fadd 0), [.n 4], some (.l 7, false), 16383⟩,
  ⟨22, .N .load1, [.l 0], some (.l 8, false), 2113535⟩,
  ⟨23, .N (.bin .eql), [.l 2, .l 0], some (.l 9, false), 8388607⟩,
  ⟨24, .N .mv, [.l 0], some (.l 10, false), 16777215⟩,
  ⟨25, .N (.fadd 1), [.n 1], some (.l 0, true), 33554431⟩,
  ⟨26, .N .load1, [.l 0], some (.l 1, true), 67108863⟩,
  ⟨27, .N .mv, [.n 3], some (.l 2, true), 33554431⟩,
  ⟨28, .N (.bin .sub), [.l 0, .c (.int .i64 1)], some (.l 3, true), 167772159⟩,
  ⟨29, .N (.idx 2), [.l 2, .l 0], some (.l 4, true), 536870911⟩,
  ⟨30, .N (.fadd 1), [.l 0], some (.l 5, true), 1073741823⟩,
  ⟨31, .N .load1, [.l 0], some (.l 6, true), 2147483647⟩,
  ⟨32, .N (.fadd 1), [.n 4], some (.l 7, true), 33554431⟩,
  ⟨33, .N .load1, [.l 0], some (.l 8, true), 4328521727⟩,
  ⟨34, .N (.bin .geq), [.l 2, .l 0], some (.l 9, true), 17179869183⟩,
  ⟨35, .N .pick, [.l 10, .l 0, .c (.bool false)], some (.l 21, false), 34359738367⟩,
  ⟨36, .N .pick, [.l 22, .c (.bool true), .l 0], some (.l 33, true), 68719476735⟩,
  ⟨37, .N .pick, [.l 34, .l 0, .c (.bool false)], none, 137438953471⟩]
def r6_9 (φ : Nat → Nat) : List AOper := [
  ⟨0, .N .mv, [.c (.bool false)], none, 0⟩]
def r6_10 (φ : Nat → Nat) : List AOper := [
  ⟨0, .N .mv, [.n 3], none, 0⟩,
  ⟨1, .N (.bin .add), [.l 0, .c (.int .i64 1)], none, 0⟩,
  ⟨2, .N .mv, [.l 0], none, 0⟩]
def l6_11 (φ : Nat → Nat) : ACode := .seq (.seq (.reg false (r6_4 φ) [(6, 0)]) (.cond (.n 6) (.skip) (.exit 0))) (.seq (.block 1 (.seq (.reg false (r6_5 φ) [(4, 1)]) (.seq (.seq (.reg false (r6_6 φ) [(7, 0)]) (.cond (.n 7) (.seq (.reg false (r6_7 φ) [(2, 0)]) (.ret)) (.skip))) (.seq (.reg true (r6_8 φ) [(8, 0)]) (.cond (.n 8) (.seq (.reg false (r6_9 φ) [(2, 0)]) (.ret)) (.skip)))))) (.reg false (r6_10 φ) [(3, 0)]))
def r6_12 (φ : Nat → Nat) : List AOper := [
  ⟨0, .N .mv, [.c (.bool true)], none, 0⟩]
def b6 (φ : Nat → Nat) : ACode := .seq (.reg false (r6_0 φ) [(1, 1), (2, 0)]) (.seq (.seq (.reg false (r6_1 φ) [(5, 0)]) (.cond (.n 5) (.seq (.reg false (r6_2 φ) [(2, 0)]) (.ret)) (.skip))) (.seq (.seq (.reg false (r6_3 φ) [(3, 0)]) (.block 0 (.loop (l6_11 φ)))) (.seq (.reg false (r6_12 φ) [(2, 0)]) (.ret))))
def f6 (φ : Nat → Nat) : AFn := ⟨1, [0, 1, 2, 3, 4, 18, 23, 47, 85], 86, b6 φ, [.t 2]⟩
/-! 8: carcanet/carcanetref03.Has: 0:g 1:a 2:b 3:g 4: 5:i 6: 7: 8: -/
/-! 10: carcanet/carcanetref03.Near: 0:g 1:v 2:g 3: 4:out 5:i 6: 7: 8: 9: -/
def r10_0 (φ : Nat → Nat) : List AOper := [
  ⟨0, .N .box, [.n 0], none, 0⟩,
  ⟨1, .N .mv, [.c (.nils)], none, 0⟩]
def r10_1 (φ : Nat → Nat) : List AOper := [
  ⟨0, .N (.bsl [.int .i64 0] 0 1 []), [], none, 0⟩,
  ⟨1, .N .mv, [.l 0], none, 0⟩]
def r10_2 (φ : Nat → Nat) : List AOper := [
  ⟨0, .N (.loadN 2), [.n 2], none, 0⟩,
  ⟨1, .calli true (φ 6), [.l 0], none, 0⟩,
  ⟨2, .N (.un .not), [.l 0], none, 0⟩]
def r10_3 (φ : Nat → Nat) : List AOper := [
  ⟨0, .N .mv, [.n 4], none, 0⟩,
  ⟨1, .N .mv, [.l 0], none, 0⟩]
def r10_4 (φ : Nat → Nat) : List AOper := [
  ⟨0, .N .mv, [.c (.int .i64 0)], none, 0⟩]
def r10_5 (φ : Nat → Nat) : List AOper := [
  ⟨0, .N .mv, [.n 5], none, 0⟩,
  ⟨1, .N (.fadd 1), [.n 2], none, 0⟩,
  ⟨2, .N .load1, [.l 0], none, 0⟩,
  ⟨3, .N .lenS, [.l 0], none, 0⟩,
  ⟨4, .N (.bin .lss), [.l 3, .l 0], none, 0⟩]
def r10_6 (φ : Nat → Nat) : List AOper := [
  ⟨0, .N (.fadd 1), [.n 2], none, 0⟩,
  ⟨1, .N .load1, [.l 0], none, 0⟩,
  ⟨2, .N .mv, [.n 5], none, 0⟩,
  ⟨3, .N (.idx 2), [.l 1, .l 0], none, 0⟩,
  ⟨4, .N (.fadd 0), [.l 0], none, 0⟩,
  ⟨5, .N .load1, [.l 0], none, 0⟩,
  ⟨6, .N .mv, [.n 1], none, 0⟩,
  ⟨7, .N (.bin .eql), [.l 1, .l 0], none, 0⟩]
def r10_7 (φ : Nat → Nat) : List AOper := [
  ⟨0, .N .mv, [.n 4], none, 0⟩,
  ⟨1, .N (.fadd 1), [.n 2], none, 0⟩,
  ⟨2, .N .load1, [.l 0], none, 0⟩,
  ⟨3, .N .mv, [.n 5], none, 0⟩,
  ⟨4, .N (.idx 2), [.l 1, .l 0], none, 0⟩,
  ⟨5, .N (.fadd 1), [.l 0], none, 0⟩,
  ⟨6, .N .load1, [.l 0], none, 0⟩,
  ⟨7, .N (.bsl [.int .i64 0] 1 1 [(0, 1)]), [.l 0], none, 0⟩,
  ⟨8, .X (.app 1 8), [.l 7, .l 0], none, 0⟩,
  ⟨9, .N .mv, [.l 0], none, 0⟩]
def r10_8 (φ : Nat → Nat) : List AOper := [
  ⟨0, .N (.fadd 1), [.n 2], none, 0⟩,
  ⟨1, .N .load1, [.l 0], none, 0⟩,
  ⟨2, .N .mv, [.n 5], none, 0⟩,
  ⟨3, .N (.idx 2), [.l 1, .l 0], none, 0⟩,
  ⟨4, .N (.fadd 1), [.l 0], none, 0⟩,
  ⟨5, .N .load1, [.l 0], none, 0⟩,
  ⟨6, .N .mv, [.n 1], none, 0⟩,
  ⟨7, .N (.bin .eql), [.l 1, .l 0], none, 0⟩]
def r10_9 (φ : Nat → Nat) : List AOper := [
  ⟨0, .N .mv, [.n 4], none, 0⟩,
  ⟨1, .N (.fadd 1), [.n 2], none, 0⟩,
  ⟨2, .N .load1, [.l 0], none, 0⟩,
  ⟨3, .N .mv, [.n 5], none, 0⟩,
  ⟨4, .N (.idx 2), [.l 1, .l 0], none, 0⟩,
  ⟨5, .N (.fadd 0), [.l 0], none, 0⟩,
  ⟨6, .N .load1, [.l 0], none, 0⟩,
  ⟨7, .N (.bsl [.int .i64 0] 1 1 [(0, 1)]), [.l 0], none, 0⟩,
  ⟨8, .X (.app 1 8), [.l 7, .l 0], none, 0⟩,
  ⟨9, .N .mv, [.l 0], none, 0⟩]
def r10_10 (φ : Nat → Nat) : List AOper := [
  ⟨0, .N .mv, [.n 5], none, 0⟩,
  ⟨1, .N (.bin .add), [.l 0, .c (.int .i64 1)], none, 0⟩,
  ⟨2, .N .mv, [.l 0], none, 0⟩]
def l10_11 (φ : Nat → Nat) : ACode := .seq (.seq (.reg false (r10_5 φ) [(7, 0)]) (.cond (.n 7) (.skip) (.exit 0))) (.seq (.block 1 (.seq (.seq (.reg false (r10_6 φ) [(8, 0)]) (.cond (.n 8) (.reg false (r10_7 φ) [(4, 0)]) (.skip))) (.seq (.reg false (r10_8 φ) [(9, 0)]) (.cond (.n 9) (.reg false (r10_9 φ) [(4, 0)]) (.skip))))) (.reg false (r10_10 φ) [(5, 0)]))
def r10_12 (φ : Nat → Nat) : List AOper := [
  ⟨0, .N .mv, [.n 4], none, 0⟩,
  ⟨1, .calli false (φ 30), [.l 0], none, 0⟩,
  ⟨2, .N .mv, [.l 0], none, 0⟩]
def b10 (φ : Nat → Nat) : ACode := .seq (.reg false (r10_0 φ) [(2, 1), (3, 0)]) (.seq (.reg false (r10_1 φ) [(4, 0)]) (.seq (.seq (.reg false (r10_2 φ) [(6, 0)]) (.cond (.n 6) (.seq (.reg false (r10_3 φ) [(3, 0)]) (.ret)) (.skip))) (.seq (.seq (.reg false (r10_4 φ) [(5, 0)]) (.block 0 (.loop (l10_11 φ)))) (.seq (.reg false (r10_12 φ) [(3, 0)]) (.ret)))))
def f10 (φ : Nat → Nat) : AFn := ⟨2, [0, 1, 2, 4, 5, 6, 10, 16, 26, 43], 55, b10 φ, [.t 3]⟩
/-! 11: carcanet/carcanetref03.Same: 0:a 1:b 2: 3:i 4: 5: 6: -/
def r11_0 (φ : Nat → Nat) : List AOper := [
  ⟨0, .N .mv, [.c (.bool false)], none, 0⟩]
def r11_1 (φ : Nat → Nat) : List AOper := [
  ⟨0, .N .mv, [.n 0], none, 0⟩,
  ⟨1, .N .lenS, [.l 0], none, 0⟩,
  ⟨2, .N .mv, [.n 1], none, 0⟩,
  ⟨3, .N .lenS, [.l 0], none, 0⟩,
  ⟨4, .N (.bin .neq), [.l 2, .l 0], none, 0⟩]
def r11_2 (φ : Nat → Nat) : List AOper := [
  ⟨0, .N .mv, [.c (.bool false)], none, 0⟩]
def r11_3 (φ : Nat → Nat) : List AOper := [
  ⟨0, .N .mv, [.c (.int .i64 0)], none, 0⟩]
def r11_4 (φ : Nat → Nat) : List AOper := [
  ⟨0, .N .mv, [.n 3], none, 0⟩,
  ⟨1, .N .mv, [.n 0], none, 0⟩,
  ⟨2, .N .lenS, [.l 0], none, 0⟩,
  ⟨3, .N (.bin .lss), [.l 2, .l 0], none, 0⟩]
def r11_5 (φ : Nat → Nat) : List AOper := [
  ⟨0, .N .mv, [.n 0], none, 0⟩,
  ⟨1, .N .mv, [.n 3], none, 0⟩,
  ⟨2, .N (.idx 1), [.l 1, .l 0], none, 3⟩,
  ⟨3, .N .load1, [.l 0], none, 7⟩,
  ⟨4, .N .mv, [.n 1], none, 0⟩,
  ⟨5, .N .mv, [.n 3], none, 0⟩,
  ⟨6, .N (.idx 1), [.l 1, .l 0], none, 48⟩,
  ⟨7, .N .load1, [.l 0], none, 112⟩,
  ⟨8, .N (.bin .neq), [.l 4, .l 0], none, 255⟩]
def r11_6 (φ : Nat → Nat) : List AOper := [
  ⟨0, .N .mv, [.c (.bool false)], none, 0⟩]
def r11_7 (φ : Nat → Nat) : List AOper := [
  ⟨0, .N .mv, [.n 3], none, 0⟩,
  ⟨1, .N (.bin .add), [.l 0, .c (.int .i64 1)], none, 0⟩,
  ⟨2, .N .mv, [.l 0], none, 0⟩]
def l11_8 (φ : Nat → Nat) : ACode := .seq (.seq (.reg false (r11_4 φ) [(5, 0)]) (.cond (.n 5) (.skip) (.exit 0))) (.seq (.block 1 (.seq (.reg true (r11_5 φ) [(6, 0)]) (.cond (.n 6) (.seq (.reg false (r11_6 φ) [(2, 0)]) (.ret)) (.skip)))) (.reg false (r11_7 φ) [(3, 0)]))
def r11_9 (φ : Nat → Nat) : List AOper := [
  ⟨0, .N .mv, [.c (.bool true)], none, 0⟩]
def b11 (φ : Nat → Nat) : ACode := .seq (.reg false (r11_0 φ) [(2, 0)]) (.seq (.seq (.reg false (r11_1 φ) [(4, 0)]) (.cond (.n 4) (.seq (.reg false (r11_2 φ) [(2, 0)]) (.ret)) (.skip))) (.seq (.seq (.reg false (r11_3 φ) [(3, 0)]) (.block 0 (.loop (l11_8 φ)))) (.seq (.reg false (r11_9 φ) [(2, 0)]) (.ret))))
def f11 (φ : Nat → Nat) : AFn := ⟨2, [0, 1, 4, 5, 10, 14, 25], 26, b11 φ, [.t 2]⟩
/-! 13: carcanet/carcanetref03.Degrees: 0:g 1:g 2: 3:out 4:v 5: 6: -/
/-! 16: carcanet/carcanetref03.Add: 0:g 1:a 2:b 3:g 4: 5: 6: 7: 8: -/
/-! 18: carcanet/carcanetref03.Without: 0:g 1:a 2:b 3:g 4: 5: 6:out 7:i 8: 9: 10: 11: -/
/-! 22: carcanet/carcanetref03.Any: 0:n 1:l 2:most 3: 4:all 5:i 6:g 7: -/
def r22_0 (φ : Nat → Nat) : List AOper := [
  ⟨0, .N (.alloc [.int .i64 0, .nils]), [], none, 0⟩]
def r22_1 (φ : Nat → Nat) : List AOper := [
  ⟨0, .N .mv, [.n 0], none, 0⟩,
  ⟨1, .N (.bin .and), [.l 0, .c (.int .i64 65535)], none, 0⟩,
  ⟨2, .N .mv, [.n 2], none, 0⟩,
  ⟨3, .N (.bin .add), [.l 0, .c (.int .i64 1)], none, 0⟩,
  ⟨4, .N (.bin .rem), [.l 2, .l 0], none, 0⟩,
  ⟨5, .N .mv, [.l 0], none, 0⟩]
def r22_2 (φ : Nat → Nat) : List AOper := [
  ⟨0, .N .mv, [.c (.nils)], none, 0⟩]
def r22_3 (φ : Nat → Nat) : List AOper := [
  ⟨0, .N .mv, [.c (.int .i64 0)], none, 0⟩]
def r22_4 (φ : Nat → Nat) : List AOper := [
  ⟨0, .N .mv, [.n 5], none, 0⟩,
  ⟨1, .N .mv, [.n 1], none, 0⟩,
  ⟨2, .N .lenS, [.l 0], none, 0⟩,
  ⟨3, .N (.bin .lss), [.l 2, .l 0], none, 0⟩,
  ⟨4, .N .mv, [.l 0], none, 0⟩,
  ⟨5, .N .mv, [.n 5], some (.l 0, true), 0⟩,
  ⟨6, .N (.bin .lss), [.l 0, .c (.int .i64 300)], some (.l 1, true), 0⟩,
  ⟨7, .N .pick, [.l 2, .l 0, .c (.bool false)], none, 0⟩,
  ⟨8, .N .mv, [.l 0], none, 0⟩,
  ⟨9, .N .mv, [.n 0], some (.l 0, true), 0⟩,
  ⟨10, .N (.bin .gtr), [.l 0, .c (.int .i64 0)], some (.l 1, true), 0⟩,
  ⟨11, .N .pick, [.l 2, .l 0, .c (.bool false)], none, 0⟩]
def r22_5 (φ : Nat → Nat) : List AOper := [
  ⟨0, .N .mv, [.n 4], none, 0⟩,
  ⟨1, .N .mv, [.n 1], none, 0⟩,
  ⟨2, .N .mv, [.n 5], none, 0⟩,
  ⟨3, .N (.idx 2), [.l 1, .l 0], none, 6⟩,
  ⟨4, .N (.fadd 0), [.l 0], none, 14⟩,
  ⟨5, .N .load1, [.l 0], none, 30⟩,
  ⟨6, .N (.bin .and), [.l 0, .c (.int .i64 65535)], none, 62⟩,
  ⟨7, .N .mv, [.n 0], none, 0⟩,
  ⟨8, .N (.bin .rem), [.l 1, .l 0], none, 254⟩,
  ⟨9, .N .mv, [.n 1], none, 0⟩,
  ⟨10, .N .mv, [.n 5], none, 0⟩,
  ⟨11, .N (.idx 2), [.l 1, .l 0], none, 1536⟩,
  ⟨12, .N (.fadd 1), [.l 0], none, 3584⟩,
  ⟨13, .N .load1, [.l 0], none, 7680⟩,
  ⟨14, .N (.bin .and), [.l 0, .c (.int .i64 65535)], none, 15872⟩,
  ⟨15, .N .mv, [.n 0], none, 0⟩,
  ⟨16, .N (.bin .rem), [.l 1, .l 0], none, 65024⟩,
  ⟨17, .N (.build [.int .i64 0, .int .i64 0] [(0, 1), (1, 1)]), [.l 8, .l 0], none, 131070⟩,
  ⟨18, .N (.bsl [.int .i64 0, .int .i64 0] 1 2 [(0, 2)]), [.l 0], none, 262142⟩,
  ⟨19, .X (.app 2 16), [.l 18, .l 0], none, 524287⟩,
  ⟨20, .N .mv, [.l 0], none, 1048575⟩]
def r22_6 (φ : Nat → Nat) : List AOper := [
  ⟨0, .N .mv, [.n 5], none, 0⟩,
  ⟨1, .N (.bin .add), [.l 0, .c (.int .i64 1)], none, 0⟩,
  ⟨2, .N .mv, [.l 0], none, 0⟩]
def l22_7 (φ : Nat → Nat) : ACode := .seq (.seq (.reg false (r22_4 φ) [(7, 0)]) (.cond (.n 7) (.skip) (.exit 0))) (.seq (.block 1 (.reg true (r22_5 φ) [(4, 0)])) (.reg false (r22_6 φ) [(5, 0)]))
def r22_8 (φ : Nat → Nat) : List AOper := [
  ⟨0, .N .mv, [.n 0], none, 0⟩,
  ⟨1, .N .mv, [.n 4], none, 0⟩,
  ⟨2, .calli false (φ 2), [.l 1, .l 0], none, 0⟩,
  ⟨3, .N .mv, [.l 0], none, 0⟩,
  ⟨4, .N (.ext 0), [.l 0], none, 0⟩,
  ⟨5, .N (.ext 1), [.l 1], none, 0⟩,
  ⟨6, .N (.alloc [.int .i64 0, .nils]), [], none, 0⟩,
  ⟨7, .X (.store 2), [.l 0, .l 2], none, 0⟩,
  ⟨8, .N .mv, [.l 2], none, 0⟩]
def r22_9 (φ : Nat → Nat) : List AOper := [
  ⟨0, .N (.loadN 2), [.n 6], none, 0⟩,
  ⟨1, .X (.store 2), [.n 3, .l 0], none, 0⟩]
def b22 (φ : Nat → Nat) : ACode := .seq (.reg false (r22_0 φ) [(3, 0)]) (.seq (.reg false (r22_1 φ) [(0, 0)]) (.seq (.reg false (r22_2 φ) [(4, 0)]) (.seq (.seq (.reg false (r22_3 φ) [(5, 0)]) (.block 0 (.loop (l22_7 φ)))) (.seq (.reg false (r22_8 φ) [(6, 2)]) (.seq (.reg false (r22_9 φ) []) (.ret))))))
def f22 (φ : Nat → Nat) : AFn := ⟨3, [0, 1, 2, 6, 7, 8, 9, 27], 57, b22 φ, [.cell 3 (some 2)]⟩
/-! 23: carcanet/carcanetref03.SameEdges: 0:a 1:b 2: 3:i 4: 5: 6: -/
/-! 25: carcanet/carcanetref03.In: 0:l 1:x 2: 3:i 4: 5: -/
def r25_0 (φ : Nat → Nat) : List AOper := [
  ⟨0, .N .mv, [.c (.bool false)], none, 0⟩]
def r25_1 (φ : Nat → Nat) : List AOper := [
  ⟨0, .N .mv, [.c (.int .i64 0)], none, 0⟩]
def r25_2 (φ : Nat → Nat) : List AOper := [
  ⟨0, .N .mv, [.n 3], none, 0⟩,
  ⟨1, .N .mv, [.n 0], none, 0⟩,
  ⟨2, .N .lenS, [.l 0], none, 0⟩,
  ⟨3, .N (.bin .lss), [.l 2, .l 0], none, 0⟩]
def r25_3 (φ : Nat → Nat) : List AOper := [
  ⟨0, .N .mv, [.n 0], none, 0⟩,
  ⟨1, .N .mv, [.n 3], none, 0⟩,
  ⟨2, .N (.idx 1), [.l 1, .l 0], none, 0⟩,
  ⟨3, .N .load1, [.l 0], none, 0⟩,
  ⟨4, .N .mv, [.n 1], none, 0⟩,
  ⟨5, .N (.bin .eql), [.l 1, .l 0], none, 0⟩]
def r25_4 (φ : Nat → Nat) : List AOper := [
  ⟨0, .N .mv, [.c (.bool true)], none, 0⟩]
def r25_5 (φ : Nat → Nat) : List AOper := [
  ⟨0, .N .mv, [.n 3], none, 0⟩,
  ⟨1, .N (.bin .add), [.l 0, .c (.int .i64 1)], none, 0⟩,
  ⟨2, .N .mv, [.l 0], none, 0⟩]
def l25_6 (φ : Nat → Nat) : ACode := .seq (.seq (.reg false (r25_2 φ) [(4, 0)]) (.cond (.n 4) (.skip) (.exit 0))) (.seq (.block 1 (.seq (.reg false (r25_3 φ) [(5, 0)]) (.cond (.n 5) (.seq (.reg false (r25_4 φ) [(2, 0)]) (.ret)) (.skip)))) (.reg false (r25_5 φ) [(3, 0)]))
def r25_7 (φ : Nat → Nat) : List AOper := [
  ⟨0, .N .mv, [.c (.bool false)], none, 0⟩]
def b25 (φ : Nat → Nat) : ACode := .seq (.reg false (r25_0 φ) [(2, 0)]) (.seq (.seq (.reg false (r25_1 φ) [(3, 0)]) (.block 0 (.loop (l25_6 φ)))) (.seq (.reg false (r25_7 φ) [(2, 0)]) (.ret)))
def f25 (φ : Nat → Nat) : AFn := ⟨2, [0, 1, 4, 5, 9, 17], 18, b25 φ, [.t 2]⟩
/-! 30: carcanet/carcanetref03.Sorted: 0:l 1: 2:out 3:i 4:at 5: 6: -/
def r30_0 (φ : Nat → Nat) : List AOper := [
  ⟨0, .N .mv, [.c (.nils)], none, 0⟩]
def r30_1 (φ : Nat → Nat) : List AOper := [
  ⟨0, .N (.bsl [.int .i64 0] 0 1 []), [], none, 0⟩,
  ⟨1, .N .mv, [.l 0], none, 0⟩]
def r30_2 (φ : Nat → Nat) : List AOper := [
  ⟨0, .N .mv, [.c (.int .i64 0)], none, 0⟩]
def r30_3 (φ : Nat → Nat) : List AOper := [
  ⟨0, .N .mv, [.n 3], none, 0⟩,
  ⟨1, .N .mv, [.n 0], none, 0⟩,
  ⟨2, .N .lenS, [.l 0], none, 0⟩,
  ⟨3, .N (.bin .lss), [.l 2, .l 0], none, 0⟩]
def r30_4 (φ : Nat → Nat) : List AOper := [
  ⟨0, .N .mv, [.n 2], none, 0⟩,
  ⟨1, .N .lenS, [.l 0], none, 0⟩,
  ⟨2, .N .mv, [.l 0], none, 0⟩]
def r30_5 (φ : Nat → Nat) : List AOper := [
  ⟨0, .N .mv, [.n 4], none, 0⟩,
  ⟨1, .N (.bin .gtr), [.l 0, .c (.int .i64 0)], none, 1⟩,
  ⟨2, .N .mv, [.l 0], none, 3⟩,
  ⟨3, .N .mv, [.n 2], some (.l 0, true), 7⟩,
  ⟨4, .N .mv, [.n 4], some (.l 1, true), 7⟩,
  ⟨5, .N (.bin .sub), [.l 0, .c (.int .i64 1)], some (.l 2, true), 23⟩,
  ⟨6, .N (.idx 1), [.l 2, .l 0], some (.l 3, true), 63⟩,
  ⟨7, .N .load1, [.l 0], some (.l 4, true), 127⟩,
  ⟨8, .N .mv, [.n 0], some (.l 5, true), 7⟩,
  ⟨9, .N .mv, [.n 3], some (.l 6, true), 7⟩,
  ⟨10, .N (.idx 1), [.l 1, .l 0], some (.l 7, true), 775⟩,
  ⟨11, .N .load1, [.l 0], some (.l 8, true), 1799⟩,
  ⟨12, .N (.bin .gtr), [.l 4, .l 0], some (.l 9, true), 4095⟩,
  ⟨13, .N .pick, [.l 10, .l 0, .c (.bool false)], none, 8191⟩]
def r30_6 (φ : Nat → Nat) : List AOper := [
  ⟨0, .N .mv, [.n 4], none, 0⟩,
  ⟨1, .N (.bin .sub), [.l 0, .c (.int .i64 1)], none, 0⟩,
  ⟨2, .N .mv, [.l 0], none, 0⟩]
def l30_7 (φ : Nat → Nat) : ACode := .seq (.seq (.reg true (r30_5 φ) [(6, 0)]) (.cond (.n 6) (.skip) (.exit 2))) (.block 3 (.reg false (r30_6 φ) [(4, 0)]))
def r30_8 (φ : Nat → Nat) : List AOper := [
  ⟨0, .N .mv, [.n 2], none, 0⟩,
  ⟨1, .N (.bsl [.int .i64 0] 1 1 [(0, 1)]), [.c (.int .i64 0)], none, 0⟩,
  ⟨2, .X (.app 1 8), [.l 1, .l 0], none, 0⟩,
  ⟨3, .N .mv, [.l 0], none, 0⟩]
def r30_9 (φ : Nat → Nat) : List AOper := [
  ⟨0, .N .mv, [.n 2], none, 0⟩,
  ⟨1, .N .mv, [.n 4], none, 0⟩,
  ⟨2, .N (.bin .add), [.l 0, .c (.int .i64 1)], none, 2⟩,
  ⟨3, .N (.slc 1 true false false), [.l 2, .l 0], none, 7⟩,
  ⟨4, .N .mv, [.n 2], none, 0⟩,
  ⟨5, .N .mv, [.n 4], none, 0⟩,
  ⟨6, .N (.slc 1 true false false), [.l 1, .l 0], none, 48⟩,
  ⟨7, .X (.copy 1), [.l 3, .l 0], none, 127⟩]
def r30_10 (φ : Nat → Nat) : List AOper := [
  ⟨0, .N .mv, [.n 2], none, 0⟩,
  ⟨1, .N .mv, [.n 4], none, 0⟩,
  ⟨2, .N .mv, [.n 0], none, 0⟩,
  ⟨3, .N .mv, [.n 3], none, 0⟩,
  ⟨4, .N (.idx 1), [.l 1, .l 0], none, 0⟩,
  ⟨5, .N .load1, [.l 0], none, 0⟩,
  ⟨6, .N (.idx 1), [.l 5, .l 4], none, 0⟩,
  ⟨7, .X (.store 1), [.l 0, .l 1], none, 0⟩]
def r30_11 (φ : Nat → Nat) : List AOper := [
  ⟨0, .N .mv, [.n 3], none, 0⟩,
  ⟨1, .N (.bin .add), [.l 0, .c (.int .i64 1)], none, 0⟩,
  ⟨2, .N .mv, [.l 0], none, 0⟩]
def l30_12 (φ : Nat → Nat) : ACode := .seq (.seq (.reg false (r30_3 φ) [(5, 0)]) (.cond (.n 5) (.skip) (.exit 0))) (.seq (.block 1 (.seq (.reg false (r30_4 φ) [(4, 0)]) (.seq (.block 2 (.loop (l30_7 φ))) (.seq (.reg false (r30_8 φ) [(2, 0)]) (.seq (.reg true (r30_9 φ) []) (.reg false (r30_10 φ) [])))))) (.reg false (r30_11 φ) [(3, 0)]))
def r30_13 (φ : Nat → Nat) : List AOper := [
  ⟨0, .N .mv, [.n 2], none, 0⟩,
  ⟨1, .N .mv, [.l 0], none, 0⟩]
def b30 (φ : Nat → Nat) : ACode := .seq (.reg false (r30_0 φ) [(1, 0)]) (.seq (.reg false (r30_1 φ) [(2, 0)]) (.seq (.seq (.reg false (r30_2 φ) [(3, 0)]) (.block 0 (.loop (l30_12 φ)))) (.seq (.reg false (r30_13 φ) [(1, 0)]) (.ret))))
def f30 (φ : Nat → Nat) : AFn := ⟨1, [0, 2, 3, 4, 5, 10, 28], 50, b30 φ, [.t 1]⟩
/-! 39: carcanet/carcanetref03.Of: 0:x 1:most 2:x 3: -/
/-! 70: carcanet/carcanetref03.SameRows: 0:a 1:b 2: 3:i 4: 5: 6: -/
def r70_0 (φ : Nat → Nat) : List AOper := [
  ⟨0, .N .mv, [.c (.bool false)], none, 0⟩]
def r70_1 (φ : Nat → Nat) : List AOper := [
  ⟨0, .N .mv, [.n 0], none, 0⟩,
  ⟨1, .N .lenS, [.l 0], none, 0⟩,
  ⟨2, .N .mv, [.n 1], none, 0⟩,
  ⟨3, .N .lenS, [.l 0], none, 0⟩,
  ⟨4, .N (.bin .neq), [.l 2, .l 0], none, 0⟩]
def r70_2 (φ : Nat → Nat) : List AOper := [
  ⟨0, .N .mv, [.c (.bool false)], none, 0⟩]
def r70_3 (φ : Nat → Nat) : List AOper := [
  ⟨0, .N .mv, [.c (.int .i64 0)], none, 0⟩]
def r70_4 (φ : Nat → Nat) : List AOper := [
  ⟨0, .N .mv, [.n 3], none, 0⟩,
  ⟨1, .N .mv, [.n 0], none, 0⟩,
  ⟨2, .N .lenS, [.l 0], none, 0⟩,
  ⟨3, .N (.bin .lss), [.l 2, .l 0], none, 0⟩]
def r70_5 (φ : Nat → Nat) : List AOper := [
  ⟨0, .N .mv, [.n 0], none, 0⟩,
  ⟨1, .N .mv, [.n 3], none, 0⟩,
  ⟨2, .N (.idx 1), [.l 1, .l 0], none, 3⟩,
  ⟨3, .N .load1, [.l 0], none, 7⟩,
  ⟨4, .N .mv, [.n 1], none, 0⟩,
  ⟨5, .N .mv, [.n 3], none, 0⟩,
  ⟨6, .N (.idx 1), [.l 1, .l 0], none, 48⟩,
  ⟨7, .N .load1, [.l 0], none, 112⟩,
  ⟨8, .calli true (φ 11), [.l 4, .l 0], none, 255⟩,
  ⟨9, .N (.un .not), [.l 0], none, 511⟩]
def r70_6 (φ : Nat → Nat) : List AOper := [
  ⟨0, .N .mv, [.c (.bool false)], none, 0⟩]
def r70_7 (φ : Nat → Nat) : List AOper := [
  ⟨0, .N .mv, [.n 3], none, 0⟩,
  ⟨1, .N (.bin .add), [.l 0, .c (.int .i64 1)], none, 0⟩,
  ⟨2, .N .mv, [.l 0], none, 0⟩]
def l70_8 (φ : Nat → Nat) : ACode := .seq (.seq (.reg false (r70_4 φ) [(5, 0)]) (.cond (.n 5) (.skip) (.exit 0))) (.seq (.block 1 (.seq (.reg true (r70_5 φ) [(6, 0)]) (.cond (.n 6) (.seq (.reg false (r70_6 φ) [(2, 0)]) (.ret)) (.skip)))) (.reg false (r70_7 φ) [(3, 0)]))
def r70_9 (φ : Nat → Nat) : List AOper := [
  ⟨0, .N .mv, [.c (.bool true)], none, 0⟩]
def b70 (φ : Nat → Nat) : ACode := .seq (.reg false (r70_0 φ) [(2, 0)]) (.seq (.seq (.reg false (r70_1 φ) [(4, 0)]) (.cond (.n 4) (.seq (.reg false (r70_2 φ) [(2, 0)]) (.ret)) (.skip))) (.seq (.seq (.reg false (r70_3 φ) [(3, 0)]) (.block 0 (.loop (l70_8 φ)))) (.seq (.reg false (r70_9 φ) [(2, 0)]) (.ret))))
def f70 (φ : Nat → Nat) : AFn := ⟨2, [0, 1, 4, 5, 10, 14, 26], 27, b70 φ, [.t 2]⟩
end Go.Ai.G
/- Functions of the program (package carcanetref04) as code of the abstract machine: written by a program of this session out of the elaborated operations. -/
namespace Go.Ai.G
set_option maxRecDepth 100000
set_option linter.unusedVariables false
/-! 61: carcanet/carcanetref04.New: 0:n 1: 2:p 3:i 4: -/
def r61_0 (φ : Nat → Nat) : List AOper := [
  ⟨0, .N .mv, [.c (.nilp)], none, 0⟩]
def r61_1 (φ : Nat → Nat) : List AOper := [
  ⟨0, .N (.build [.nils] []), [], none, 0⟩,
  ⟨1, .N .box, [.l 0], none, 0⟩,
  ⟨2, .N .mv, [.l 0], none, 0⟩]
def r61_2 (φ : Nat → Nat) : List AOper := [
  ⟨0, .N .mv, [.c (.int .i64 0)], none, 0⟩]
def r61_3 (φ : Nat → Nat) : List AOper := [
  ⟨0, .N .mv, [.n 3], none, 0⟩,
  ⟨1, .N .mv, [.n 0], none, 0⟩,
  ⟨2, .N (.bin .lss), [.l 1, .l 0], none, 0⟩,
  ⟨3, .N .mv, [.l 0], none, 0⟩,
  ⟨4, .N .mv, [.n 3], some (.l 0, true), 0⟩,
  ⟨5, .N (.bin .lss), [.l 0, .c (.int .i64 1000)], some (.l 1, true), 0⟩,
  ⟨6, .N .pick, [.l 2, .l 0, .c (.bool false)], none, 0⟩]
def r61_4 (φ : Nat → Nat) : List AOper := [
  ⟨0, .N .mv, [.n 2], none, 0⟩,
  ⟨1, .N .mv, [.n 2], none, 0⟩,
  ⟨2, .N .nilc, [.l 0], none, 0⟩,
  ⟨3, .N (.fadd 0), [.l 0], none, 0⟩,
  ⟨4, .N .load1, [.l 0], none, 0⟩,
  ⟨5, .N .mv, [.n 3], none, 0⟩,
  ⟨6, .N (.bsl [.int .i64 0] 1 1 [(0, 1)]), [.l 0], none, 0⟩,
  ⟨7, .X (.app 1 8), [.l 2, .l 0], none, 0⟩,
  ⟨8, .N .nilc, [.l 7], none, 0⟩,
  ⟨9, .N (.fadd 0), [.l 0], none, 0⟩,
  ⟨10, .X (.store 1), [.l 0, .l 2], none, 0⟩]
def r61_5 (φ : Nat → Nat) : List AOper := [
  ⟨0, .N .mv, [.n 3], none, 0⟩,
  ⟨1, .N (.bin .add), [.l 0, .c (.int .i64 1)], none, 0⟩,
  ⟨2, .N .mv, [.l 0], none, 0⟩]
def l61_6 (φ : Nat → Nat) : ACode := .seq (.seq (.reg false (r61_3 φ) [(4, 0)]) (.cond (.n 4) (.skip) (.exit 0))) (.seq (.block 1 (.reg false (r61_4 φ) [])) (.reg false (r61_5 φ) [(3, 0)]))
def r61_7 (φ : Nat → Nat) : List AOper := [
  ⟨0, .N .mv, [.n 2], none, 0⟩,
  ⟨1, .N .mv, [.l 0], none, 0⟩]
def b61 (φ : Nat → Nat) : ACode := .seq (.reg false (r61_0 φ) [(1, 0)]) (.seq (.reg false (r61_1 φ) [(2, 0)]) (.seq (.seq (.reg false (r61_2 φ) [(3, 0)]) (.block 0 (.loop (l61_6 φ)))) (.seq (.reg false (r61_7 φ) [(1, 0)]) (.ret))))
def f61 (φ : Nat → Nat) : AFn := ⟨1, [0, 2, 3, 4, 13], 27, b61 φ, [.t 1]⟩
/-! 63: (*carcanet/carcanetref04.Part).Same: 0:p 1:a 2:b 3: -/
def r63_0 (φ : Nat → Nat) : List AOper := [
  ⟨0, .N .mv, [.c (.bool false)], none, 0⟩]
def r63_1 (φ : Nat → Nat) : List AOper := [
  ⟨0, .N .mv, [.n 0], none, 0⟩,
  ⟨1, .N .mv, [.n 1], none, 0⟩,
  ⟨2, .call (φ 82), [.l 1, .l 0], none, 3⟩,
  ⟨3, .N .mv, [.l 0], none, 7⟩,
  ⟨4, .N .mv, [.n 0], some (.l 0, true), 15⟩,
  ⟨5, .N .mv, [.n 2], some (.l 1, true), 15⟩,
  ⟨6, .call (φ 82), [.l 1, .l 0], some (.l 2, true), 63⟩,
  ⟨7, .N .pick, [.l 3, .l 0, .c (.bool false)], none, 127⟩,
  ⟨8, .N .mv, [.l 0], none, 255⟩,
  ⟨9, .N .mv, [.n 0], some (.l 0, true), 511⟩,
  ⟨10, .N .nilc, [.l 0], some (.l 1, true), 1023⟩,
  ⟨11, .N (.fadd 0), [.l 0], some (.l 2, true), 2047⟩,
  ⟨12, .N .load1, [.l 0], some (.l 3, true), 4095⟩,
  ⟨13, .N .mv, [.n 1], some (.l 4, true), 511⟩,
  ⟨14, .N (.idx 1), [.l 1, .l 0], some (.l 5, true), 16383⟩,
  ⟨15, .N .load1, [.l 0], some (.l 6, true), 32767⟩,
  ⟨16, .N .mv, [.n 0], some (.l 7, true), 511⟩,
  ⟨17, .N .nilc, [.l 0], some (.l 8, true), 66047⟩,
  ⟨18, .N (.fadd 0), [.l 0], some (.l 9, true), 197119⟩,
  ⟨19, .N .load1, [.l 0], some (.l 10, true), 459263⟩,
  ⟨20, .N .mv, [.n 2], some (.l 11, true), 511⟩,
  ⟨21, .N (.idx 1), [.l 1, .l 0], some (.l 12, true), 2032127⟩,
  ⟨22, .N .load1, [.l 0], some (.l 13, true), 4129279⟩,
  ⟨23, .N (.bin .eql), [.l 7, .l 0], some (.l 14, true), 8388607⟩,
  ⟨24, .N .pick, [.l 15, .l 0, .c (.bool false)], none, 16777215⟩,
  ⟨25, .N .mv, [.l 0], none, 33554431⟩]
def b63 (φ : Nat → Nat) : ACode := .seq (.reg false (r63_0 φ) [(3, 0)]) (.seq (.reg true (r63_1 φ) [(3, 0)]) (.ret))
def f63 (φ : Nat → Nat) : AFn := ⟨3, [0, 1, 2, 6], 32, b63 φ, [.t 3]⟩
/-! 65: (*carcanet/carcanetref04.Part).Join: 0:p 1:a 2:b 3: 4:x 5:y 6:i 7: 8: 9: -/
def r65_0 (φ : Nat → Nat) : List AOper := [
  ⟨0, .N .mv, [.c (.bool false)], none, 0⟩]
def r65_1 (φ : Nat → Nat) : List AOper := [
  ⟨0, .N .mv, [.n 0], none, 0⟩,
  ⟨1, .N .mv, [.n 1], none, 0⟩,
  ⟨2, .call (φ 82), [.l 1, .l 0], none, 3⟩,
  ⟨3, .N (.un .not), [.l 0], none, 7⟩,
  ⟨4, .N .mv, [.l 0], none, 15⟩,
  ⟨5, .N .mv, [.n 0], some (.l 0, false), 31⟩,
  ⟨6, .N .mv, [.n 2], some (.l 1, false), 31⟩,
  ⟨7, .call (φ 82), [.l 1, .l 0], some (.l 2, false), 127⟩,
  ⟨8, .N (.un .not), [.l 0], some (.l 3, false), 255⟩,
  ⟨9, .N .pick, [.l 4, .c (.bool true), .l 0], none, 511⟩,
  ⟨10, .N .mv, [.l 0], none, 1023⟩,
  ⟨11, .N .mv, [.n 0], some (.l 0, false), 2047⟩,
  ⟨12, .N .nilc, [.l 0], some (.l 1, false), 4095⟩,
  ⟨13, .N (.fadd 0), [.l 0], some (.l 2, false), 8191⟩,
  ⟨14, .N .load1, [.l 0], some (.l 3, false), 16383⟩,
  ⟨15, .N .mv, [.n 1], some (.l 4, false), 2047⟩,
  ⟨16, .N (.idx 1), [.l 1, .l 0], some (.l 5, false), 65535⟩,
  ⟨17, .N .load1, [.l 0], some (.l 6, false), 131071⟩,
  ⟨18, .N .mv, [.n 0], some (.l 7, false), 2047⟩,
  ⟨19, .N .nilc, [.l 0], some (.l 8, false), 264191⟩,
  ⟨20, .N (.fadd 0), [.l 0], some (.l 9, false), 788479⟩,
  ⟨21, .N .load1, [.l 0], some (.l 10, false), 1837055⟩,
  ⟨22, .N .mv, [.n 2], some (.l 11, false), 2047⟩,
  ⟨23, .N (.idx 1), [.l 1, .l 0], some (.l 12, false), 8128511⟩,
  ⟨24, .N .load1, [.l 0], some (.l 13, false), 16517119⟩,
  ⟨25, .N (.bin .eql), [.l 7, .l 0], some (.l 14, false), 33554431⟩,
  ⟨26, .N .pick, [.l 15, .c (.bool true), .l 0], none, 67108863⟩]
def r65_2 (φ : Nat → Nat) : List AOper := [
  ⟨0, .N .mv, [.c (.bool false)], none, 0⟩]
def r65_3 (φ : Nat → Nat) : List AOper := [
  ⟨0, .N .mv, [.n 0], none, 0⟩,
  ⟨1, .N .nilc, [.l 0], none, 1⟩,
  ⟨2, .N (.fadd 0), [.l 0], none, 3⟩,
  ⟨3, .N .load1, [.l 0], none, 7⟩,
  ⟨4, .N .mv, [.n 1], none, 0⟩,
  ⟨5, .N (.idx 1), [.l 1, .l 0], none, 31⟩,
  ⟨6, .N .load1, [.l 0], none, 63⟩,
  ⟨7, .N .mv, [.n 0], none, 0⟩,
  ⟨8, .N .nilc, [.l 0], none, 128⟩,
  ⟨9, .N (.fadd 0), [.l 0], none, 384⟩,
  ⟨10, .N .load1, [.l 0], none, 896⟩,
  ⟨11, .N .mv, [.n 2], none, 0⟩,
  ⟨12, .N (.idx 1), [.l 1, .l 0], none, 3968⟩,
  ⟨13, .N .load1, [.l 0], none, 8064⟩,
  ⟨14, .N .min, [.l 7, .l 0], none, 16383⟩,
  ⟨15, .N .mv, [.l 0], none, 32767⟩]
def r65_4 (φ : Nat → Nat) : List AOper := [
  ⟨0, .N .mv, [.n 0], none, 0⟩,
  ⟨1, .N .nilc, [.l 0], none, 1⟩,
  ⟨2, .N (.fadd 0), [.l 0], none, 3⟩,
  ⟨3, .N .load1, [.l 0], none, 7⟩,
  ⟨4, .N .mv, [.n 1], none, 0⟩,
  ⟨5, .N (.idx 1), [.l 1, .l 0], none, 31⟩,
  ⟨6, .N .load1, [.l 0], none, 63⟩,
  ⟨7, .N .mv, [.n 0], none, 0⟩,
  ⟨8, .N .nilc, [.l 0], none, 128⟩,
  ⟨9, .N (.fadd 0), [.l 0], none, 384⟩,
  ⟨10, .N .load1, [.l 0], none, 896⟩,
  ⟨11, .N .mv, [.n 2], none, 0⟩,
  ⟨12, .N (.idx 1), [.l 1, .l 0], none, 3968⟩,
  ⟨13, .N .load1, [.l 0], none, 8064⟩,
  ⟨14, .N .max, [.l 7, .l 0], none, 16383⟩,
  ⟨15, .N .mv, [.l 0], none, 32767⟩]
def r65_5 (φ : Nat → Nat) : List AOper := [
  ⟨0, .N .mv, [.c (.int .i64 0)], none, 0⟩]
def r65_6 (φ : Nat → Nat) : List AOper := [
  ⟨0, .N .mv, [.n 6], none, 0⟩,
  ⟨1, .N .mv, [.n 0], none, 0⟩,
  ⟨2, .N .nilc, [.l 0], none, 0⟩,
  ⟨3, .N (.fadd 0), [.l 0], none, 0⟩,
  ⟨4, .N .load1, [.l 0], none, 0⟩,
  ⟨5, .N .lenS, [.l 0], none, 0⟩,
  ⟨6, .N (.bin .lss), [.l 5, .l 0], none, 0⟩]
def r65_7 (φ : Nat → Nat) : List AOper := [
  ⟨0, .N .mv, [.n 0], none, 0⟩,
  ⟨1, .N .nilc, [.l 0], none, 0⟩,
  ⟨2, .N (.fadd 0), [.l 0], none, 0⟩,
  ⟨3, .N .load1, [.l 0], none, 0⟩,
  ⟨4, .N .mv, [.n 6], none, 0⟩,
  ⟨5, .N (.idx 1), [.l 1, .l 0], none, 0⟩,
  ⟨6, .N .load1, [.l 0], none, 0⟩,
  ⟨7, .N .mv, [.n 5], none, 0⟩,
  ⟨8, .N (.bin .eql), [.l 1, .l 0], none, 0⟩]
def r65_8 (φ : Nat → Nat) : List AOper := [
  ⟨0, .N .mv, [.n 0], none, 0⟩,
  ⟨1, .N .nilc, [.l 0], none, 0⟩,
  ⟨2, .N (.fadd 0), [.l 0], none, 0⟩,
  ⟨3, .N .load1, [.l 0], none, 0⟩,
  ⟨4, .N .mv, [.n 6], none, 0⟩,
  ⟨5, .N .mv, [.n 4], none, 0⟩,
  ⟨6, .N (.idx 1), [.l 2, .l 1], none, 0⟩,
  ⟨7, .X (.store 1), [.l 0, .l 1], none, 0⟩]
def r65_9 (φ : Nat → Nat) : List AOper := [
  ⟨0, .N .mv, [.n 6], none, 0⟩,
  ⟨1, .N (.bin .add), [.l 0, .c (.int .i64 1)], none, 0⟩,
  ⟨2, .N .mv, [.l 0], none, 0⟩]
def l65_10 (φ : Nat → Nat) : ACode := .seq (.seq (.reg false (r65_6 φ) [(8, 0)]) (.cond (.n 8) (.skip) (.exit 0))) (.seq (.block 1 (.seq (.reg false (r65_7 φ) [(9, 0)]) (.cond (.n 9) (.reg false (r65_8 φ) []) (.skip)))) (.reg false (r65_9 φ) [(6, 0)]))
def r65_11 (φ : Nat → Nat) : List AOper := [
  ⟨0, .N .mv, [.c (.bool true)], none, 0⟩]
def b65 (φ : Nat → Nat) : ACode := .seq (.reg false (r65_0 φ) [(3, 0)]) (.seq (.seq (.reg true (r65_1 φ) [(7, 0)]) (.cond (.n 7) (.seq (.reg false (r65_2 φ) [(3, 0)]) (.ret)) (.skip))) (.seq (.reg true (r65_3 φ) [(4, 0)]) (.seq (.reg true (r65_4 φ) [(5, 0)]) (.seq (.seq (.reg false (r65_5 φ) [(6, 0)]) (.block 0 (.loop (l65_10 φ)))) (.seq (.reg false (r65_11 φ) [(3, 0)]) (.ret))))))
def f65 (φ : Nat → Nat) : AFn := ⟨3, [0, 1, 2, 6, 7, 8, 9, 36, 73, 84], 92, b65 φ, [.t 3]⟩
/-! 67: (*carcanet/carcanetref04.Part).Count: 0:p 1: 2:n 3:i 4: 5: -/
def r67_0 (φ : Nat → Nat) : List AOper := [
  ⟨0, .N .mv, [.c (.int .i64 0)], none, 0⟩]
def r67_1 (φ : Nat → Nat) : List AOper := [
  ⟨0, .N .mv, [.c (.int .i64 0)], none, 0⟩]
def r67_2 (φ : Nat → Nat) : List AOper := [
  ⟨0, .N .mv, [.c (.int .i64 0)], none, 0⟩]
def r67_3 (φ : Nat → Nat) : List AOper := [
  ⟨0, .N .mv, [.n 3], none, 0⟩,
  ⟨1, .N .mv, [.n 0], none, 0⟩,
  ⟨2, .N .nilc, [.l 0], none, 0⟩,
  ⟨3, .N (.fadd 0), [.l 0], none, 0⟩,
  ⟨4, .N .load1, [.l 0], none, 0⟩,
  ⟨5, .N .lenS, [.l 0], none, 0⟩,
  ⟨6, .N (.bin .lss), [.l 5, .l 0], none, 0⟩]
def r67_4 (φ : Nat → Nat) : List AOper := [
  ⟨0, .N .mv, [.n 0], none, 0⟩,
  ⟨1, .N .nilc, [.l 0], none, 0⟩,
  ⟨2, .N (.fadd 0), [.l 0], none, 0⟩,
  ⟨3, .N .load1, [.l 0], none, 0⟩,
  ⟨4, .N .mv, [.n 3], none, 0⟩,
  ⟨5, .N (.idx 1), [.l 1, .l 0], none, 0⟩,
  ⟨6, .N .load1, [.l 0], none, 0⟩,
  ⟨7, .N .mv, [.n 3], none, 0⟩,
  ⟨8, .N (.bin .eql), [.l 1, .l 0], none, 0⟩]
def r67_5 (φ : Nat → Nat) : List AOper := [
  ⟨0, .N .mv, [.n 2], none, 0⟩,
  ⟨1, .N (.bin .add), [.l 0, .c (.int .i64 1)], none, 0⟩,
  ⟨2, .N .mv, [.l 0], none, 0⟩]
def r67_6 (φ : Nat → Nat) : List AOper := [
  ⟨0, .N .mv, [.n 3], none, 0⟩,
  ⟨1, .N (.bin .add), [.l 0, .c (.int .i64 1)], none, 0⟩,
  ⟨2, .N .mv, [.l 0], none, 0⟩]
def l67_7 (φ : Nat → Nat) : ACode := .seq (.seq (.reg false (r67_3 φ) [(4, 0)]) (.cond (.n 4) (.skip) (.exit 0))) (.seq (.block 1 (.seq (.reg false (r67_4 φ) [(5, 0)]) (.cond (.n 5) (.reg false (r67_5 φ) [(2, 0)]) (.skip)))) (.reg false (r67_6 φ) [(3, 0)]))
def r67_8 (φ : Nat → Nat) : List AOper := [
  ⟨0, .N .mv, [.n 2], none, 0⟩,
  ⟨1, .N .mv, [.l 0], none, 0⟩]
def b67 (φ : Nat → Nat) : ACode := .seq (.reg false (r67_0 φ) [(1, 0)]) (.seq (.reg false (r67_1 φ) [(2, 0)]) (.seq (.seq (.reg false (r67_2 φ) [(3, 0)]) (.block 0 (.loop (l67_7 φ)))) (.seq (.reg false (r67_8 φ) [(1, 0)]) (.ret))))
def f67 (φ : Nat → Nat) : AFn := ⟨1, [0, 2, 3, 4, 11, 22], 26, b67 φ, [.t 1]⟩
/-! 69: (*carcanet/carcanetref04.Part).Classes: 0:p 1: 2:out 3:i 4:l 5:k 6: 7: 8: 9: -/
def r69_0 (φ : Nat → Nat) : List AOper := [
  ⟨0, .N .mv, [.c (.nils)], none, 0⟩]
def r69_1 (φ : Nat → Nat) : List AOper := [
  ⟨0, .N (.bsl [.nils] 0 1 []), [], none, 0⟩,
  ⟨1, .N .mv, [.l 0], none, 0⟩]
def r69_2 (φ : Nat → Nat) : List AOper := [
  ⟨0, .N .mv, [.c (.int .i64 0)], none, 0⟩]
def r69_3 (φ : Nat → Nat) : List AOper := [
  ⟨0, .N .mv, [.n 3], none, 0⟩,
  ⟨1, .N .mv, [.n 0], none, 0⟩,
  ⟨2, .N .nilc, [.l 0], none, 0⟩,
  ⟨3, .N (.fadd 0), [.l 0], none, 0⟩,
  ⟨4, .N .load1, [.l 0], none, 0⟩,
  ⟨5, .N .lenS, [.l 0], none, 0⟩,
  ⟨6, .N (.bin .lss), [.l 5, .l 0], none, 0⟩]
def r69_4 (φ : Nat → Nat) : List AOper := [
  ⟨0, .N .mv, [.n 0], none, 0⟩,
  ⟨1, .N .nilc, [.l 0], none, 0⟩,
  ⟨2, .N (.fadd 0), [.l 0], none, 0⟩,
  ⟨3, .N .load1, [.l 0], none, 0⟩,
  ⟨4, .N .mv, [.n 3], none, 0⟩,
  ⟨5, .N (.idx 1), [.l 1, .l 0], none, 0⟩,
  ⟨6, .N .load1, [.l 0], none, 0⟩,
  ⟨7, .N .mv, [.n 3], none, 0⟩,
  ⟨8, .N (.bin .neq), [.l 1, .l 0], none, 0⟩]
def r69_5 (φ : Nat → Nat) : List AOper := [
  ⟨0, .N (.bsl [.int .i64 0] 0 1 []), [], none, 0⟩,
  ⟨1, .N .mv, [.l 0], none, 0⟩]
def r69_6 (φ : Nat → Nat) : List AOper := [
  ⟨0, .N .mv, [.n 3], none, 0⟩,
  ⟨1, .N .mv, [.l 0], none, 0⟩]
def r69_7 (φ : Nat → Nat) : List AOper := [
  ⟨0, .N .mv, [.n 5], none, 0⟩,
  ⟨1, .N .mv, [.n 0], none, 0⟩,
  ⟨2, .N .nilc, [.l 0], none, 0⟩,
  ⟨3, .N (.fadd 0), [.l 0], none, 0⟩,
  ⟨4, .N .load1, [.l 0], none, 0⟩,
  ⟨5, .N .lenS, [.l 0], none, 0⟩,
  ⟨6, .N (.bin .lss), [.l 5, .l 0], none, 0⟩]
def r69_8 (φ : Nat → Nat) : List AOper := [
  ⟨0, .N .mv, [.n 0], none, 0⟩,
  ⟨1, .N .nilc, [.l 0], none, 0⟩,
  ⟨2, .N (.fadd 0), [.l 0], none, 0⟩,
  ⟨3, .N .load1, [.l 0], none, 0⟩,
  ⟨4, .N .mv, [.n 5], none, 0⟩,
  ⟨5, .N (.idx 1), [.l 1, .l 0], none, 0⟩,
  ⟨6, .N .load1, [.l 0], none, 0⟩,
  ⟨7, .N .mv, [.n 3], none, 0⟩,
  ⟨8, .N (.bin .eql), [.l 1, .l 0], none, 0⟩]
def r69_9 (φ : Nat → Nat) : List AOper := [
  ⟨0, .N .mv, [.n 4], none, 0⟩,
  ⟨1, .N .mv, [.n 5], none, 0⟩,
  ⟨2, .N (.bsl [.int .i64 0] 1 1 [(0, 1)]), [.l 0], none, 0⟩,
  ⟨3, .X (.app 1 8), [.l 2, .l 0], none, 0⟩,
  ⟨4, .N .mv, [.l 0], none, 0⟩]
def r69_10 (φ : Nat → Nat) : List AOper := [
  ⟨0, .N .mv, [.n 5], none, 0⟩,
  ⟨1, .N (.bin .add), [.l 0, .c (.int .i64 1)], none, 0⟩,
  ⟨2, .N .mv, [.l 0], none, 0⟩]
def l69_11 (φ : Nat → Nat) : ACode := .seq (.seq (.reg false (r69_7 φ) [(8, 0)]) (.cond (.n 8) (.skip) (.exit 2))) (.seq (.block 3 (.seq (.reg false (r69_8 φ) [(9, 0)]) (.cond (.n 9) (.reg false (r69_9 φ) [(4, 0)]) (.skip)))) (.reg false (r69_10 φ) [(5, 0)]))
def r69_12 (φ : Nat → Nat) : List AOper := [
  ⟨0, .N .mv, [.n 2], none, 0⟩,
  ⟨1, .N .mv, [.n 4], none, 0⟩,
  ⟨2, .N (.bsl [.nils] 1 1 [(0, 1)]), [.l 0], none, 0⟩,
  ⟨3, .X (.app 1 24), [.l 2, .l 0], none, 0⟩,
  ⟨4, .N .mv, [.l 0], none, 0⟩]
def r69_13 (φ : Nat → Nat) : List AOper := [
  ⟨0, .N .mv, [.n 3], none, 0⟩,
  ⟨1, .N (.bin .add), [.l 0, .c (.int .i64 1)], none, 0⟩,
  ⟨2, .N .mv, [.l 0], none, 0⟩]
def l69_14 (φ : Nat → Nat) : ACode := .seq (.seq (.reg false (r69_3 φ) [(6, 0)]) (.cond (.n 6) (.skip) (.exit 0))) (.seq (.block 1 (.seq (.seq (.reg false (r69_4 φ) [(7, 0)]) (.cond (.n 7) (.exit 1) (.skip))) (.seq (.reg false (r69_5 φ) [(4, 0)]) (.seq (.seq (.reg false (r69_6 φ) [(5, 0)]) (.block 2 (.loop (l69_11 φ)))) (.reg false (r69_12 φ) [(2, 0)]))))) (.reg false (r69_13 φ) [(3, 0)]))
def r69_15 (φ : Nat → Nat) : List AOper := [
  ⟨0, .N .mv, [.n 2], none, 0⟩,
  ⟨1, .N .mv, [.l 0], none, 0⟩]
def b69 (φ : Nat → Nat) : ACode := .seq (.reg false (r69_0 φ) [(1, 0)]) (.seq (.reg false (r69_1 φ) [(2, 0)]) (.seq (.seq (.reg false (r69_2 φ) [(3, 0)]) (.block 0 (.loop (l69_14 φ)))) (.seq (.reg false (r69_15 φ) [(1, 0)]) (.ret))))
def f69 (φ : Nat → Nat) : AFn := ⟨1, [0, 2, 3, 4, 5, 6, 14, 25, 34, 45], 55, b69 φ, [.t 1]⟩
/-! 73: carcanet/carcanetref04.Of: 0:g 1:g 2: 3:out 4:seen 5:v 6:l 7:i 8:near 9:k 10: 11: 12: 13: 14: 15: -/
def r73_0 (φ : Nat → Nat) : List AOper := [
  ⟨0, .N .box, [.n 0], none, 0⟩,
  ⟨1, .N .mv, [.c (.nils)], none, 0⟩]
def r73_1 (φ : Nat → Nat) : List AOper := [
  ⟨0, .N (.bsl [.nils] 0 1 []), [], none, 0⟩,
  ⟨1, .N .mv, [.l 0], none, 0⟩]
def r73_2 (φ : Nat → Nat) : List AOper := [
  ⟨0, .N (.loadN 2), [.n 1], none, 0⟩,
  ⟨1, .calli true (φ 6), [.l 0], none, 0⟩,
  ⟨2, .N (.un .not), [.l 0], none, 0⟩]
def r73_3 (φ : Nat → Nat) : List AOper := [
  ⟨0, .N .mv, [.n 3], none, 0⟩,
  ⟨1, .N .mv, [.l 0], none, 0⟩]
def r73_4 (φ : Nat → Nat) : List AOper := [
  ⟨0, .N (.fadd 0), [.n 1], none, 0⟩,
  ⟨1, .N .load1, [.l 0], none, 0⟩,
  ⟨2, .N (.mksl [.bool false] 1 1), [.l 0, .l 0], none, 0⟩,
  ⟨3, .N .mv, [.l 0], none, 0⟩]
def r73_5 (φ : Nat → Nat) : List AOper := [
  ⟨0, .N .mv, [.c (.int .i64 0)], none, 0⟩]
def r73_6 (φ : Nat → Nat) : List AOper := [
  ⟨0, .N .mv, [.n 5], none, 0⟩,
  ⟨1, .N (.fadd 0), [.n 1], none, 0⟩,
  ⟨2, .N .load1, [.l 0], none, 0⟩,
  ⟨3, .N (.bin .lss), [.l 2, .l 0], none, 0⟩]
def r73_7 (φ : Nat → Nat) : List AOper := [
  ⟨0, .N .mv, [.n 4], none, 0⟩,
  ⟨1, .N .mv, [.n 5], none, 0⟩,
  ⟨2, .N (.idx 1), [.l 1, .l 0], none, 0⟩,
  ⟨3, .N .load1, [.l 0], none, 0⟩]
def r73_8 (φ : Nat → Nat) : List AOper := [
  ⟨0, .N .mv, [.n 5], none, 0⟩,
  ⟨1, .N (.bsl [.int .i64 0] 1 1 [(0, 1)]), [.l 0], none, 0⟩,
  ⟨2, .N .mv, [.l 0], none, 0⟩]
def r73_9 (φ : Nat → Nat) : List AOper := [
  ⟨0, .N .mv, [.n 4], none, 0⟩,
  ⟨1, .N .mv, [.n 5], none, 0⟩,
  ⟨2, .N (.idx 1), [.l 1, .l 0], none, 0⟩,
  ⟨3, .X (.store 1), [.l 0, .c (.bool true)], none, 0⟩]
def r73_10 (φ : Nat → Nat) : List AOper := [
  ⟨0, .N .mv, [.c (.int .i64 0)], none, 0⟩]
def r73_11 (φ : Nat → Nat) : List AOper := [
  ⟨0, .N .mv, [.n 7], none, 0⟩,
  ⟨1, .N .mv, [.n 6], none, 0⟩,
  ⟨2, .N .lenS, [.l 0], none, 0⟩,
  ⟨3, .N (.bin .lss), [.l 2, .l 0], none, 0⟩]
def r73_12 (φ : Nat → Nat) : List AOper := [
  ⟨0, .N (.loadN 2), [.n 1], none, 0⟩,
  ⟨1, .N .mv, [.n 6], none, 0⟩,
  ⟨2, .N .mv, [.n 7], none, 0⟩,
  ⟨3, .N (.idx 1), [.l 1, .l 0], none, 6⟩,
  ⟨4, .N .load1, [.l 0], none, 14⟩,
  ⟨5, .calli false (φ 10), [.l 4, .l 0], none, 31⟩,
  ⟨6, .N .mv, [.l 0], none, 63⟩]
def r73_13 (φ : Nat → Nat) : List AOper := [
  ⟨0, .N .mv, [.c (.int .i64 0)], none, 0⟩]
def r73_14 (φ : Nat → Nat) : List AOper := [
  ⟨0, .N .mv, [.n 9], none, 0⟩,
  ⟨1, .N .mv, [.n 8], none, 0⟩,
  ⟨2, .N .lenS, [.l 0], none, 0⟩,
  ⟨3, .N (.bin .lss), [.l 2, .l 0], none, 0⟩]
def r73_15 (φ : Nat → Nat) : List AOper := [
  ⟨0, .N .mv, [.n 4], none, 0⟩,
  ⟨1, .N .mv, [.n 8], none, 0⟩,
  ⟨2, .N .mv, [.n 9], none, 0⟩,
  ⟨3, .N (.idx 1), [.l 1, .l 0], none, 0⟩,
  ⟨4, .N .load1, [.l 0], none, 0⟩,
  ⟨5, .N (.idx 1), [.l 4, .l 0], none, 0⟩,
  ⟨6, .N .load1, [.l 0], none, 0⟩,
  ⟨7, .N (.un .not), [.l 0], none, 0⟩]
def r73_16 (φ : Nat → Nat) : List AOper := [
  ⟨0, .N .mv, [.n 4], none, 0⟩,
  ⟨1, .N .mv, [.n 8], none, 0⟩,
  ⟨2, .N .mv, [.n 9], none, 0⟩,
  ⟨3, .N (.idx 1), [.l 1, .l 0], none, 0⟩,
  ⟨4, .N .load1, [.l 0], none, 0⟩,
  ⟨5, .N (.idx 1), [.l 4, .l 0], none, 0⟩,
  ⟨6, .X (.store 1), [.l 0, .c (.bool true)], none, 0⟩]
def r73_17 (φ : Nat → Nat) : List AOper := [
  ⟨0, .N .mv, [.n 6], none, 0⟩,
  ⟨1, .N .mv, [.n 8], none, 0⟩,
  ⟨2, .N .mv, [.n 9], none, 0⟩,
  ⟨3, .N (.idx 1), [.l 1, .l 0], none, 0⟩,
  ⟨4, .N .load1, [.l 0], none, 0⟩,
  ⟨5, .N (.bsl [.int .i64 0] 1 1 [(0, 1)]), [.l 0], none, 0⟩,
  ⟨6, .X (.app 1 8), [.l 5, .l 0], none, 0⟩,
  ⟨7, .N .mv, [.l 0], none, 0⟩]
def r73_18 (φ : Nat → Nat) : List AOper := [
  ⟨0, .N .mv, [.n 9], none, 0⟩,
  ⟨1, .N (.bin .add), [.l 0, .c (.int .i64 1)], none, 0⟩,
  ⟨2, .N .mv, [.l 0], none, 0⟩]
def l73_19 (φ : Nat → Nat) : ACode := .seq (.seq (.reg false (r73_14 φ) [(14, 0)]) (.cond (.n 14) (.skip) (.exit 4))) (.seq (.block 5 (.seq (.reg false (r73_15 φ) [(15, 0)]) (.cond (.n 15) (.seq (.reg false (r73_16 φ) []) (.reg false (r73_17 φ) [(6, 0)])) (.skip)))) (.reg false (r73_18 φ) [(9, 0)]))
def r73_20 (φ : Nat → Nat) : List AOper := [
  ⟨0, .N .mv, [.n 7], none, 0⟩,
  ⟨1, .N (.bin .add), [.l 0, .c (.int .i64 1)], none, 0⟩,
  ⟨2, .N .mv, [.l 0], none, 0⟩]
def l73_21 (φ : Nat → Nat) : ACode := .seq (.seq (.reg false (r73_11 φ) [(13, 0)]) (.cond (.n 13) (.skip) (.exit 2))) (.seq (.block 3 (.seq (.reg true (r73_12 φ) [(8, 0)]) (.seq (.reg false (r73_13 φ) [(9, 0)]) (.block 4 (.loop (l73_19 φ)))))) (.reg false (r73_20 φ) [(7, 0)]))
def r73_22 (φ : Nat → Nat) : List AOper := [
  ⟨0, .N .mv, [.n 3], none, 0⟩,
  ⟨1, .N .mv, [.n 6], none, 0⟩,
  ⟨2, .calli false (φ 30), [.l 0], none, 0⟩,
  ⟨3, .N (.bsl [.nils] 1 1 [(0, 1)]), [.l 0], none, 0⟩,
  ⟨4, .X (.app 1 24), [.l 3, .l 0], none, 0⟩,
  ⟨5, .N .mv, [.l 0], none, 0⟩]
def r73_23 (φ : Nat → Nat) : List AOper := [
  ⟨0, .N .mv, [.n 5], none, 0⟩,
  ⟨1, .N (.bin .add), [.l 0, .c (.int .i64 1)], none, 0⟩,
  ⟨2, .N .mv, [.l 0], none, 0⟩]
def l73_24 (φ : Nat → Nat) : ACode := .seq (.seq (.reg false (r73_6 φ) [(11, 0)]) (.cond (.n 11) (.skip) (.exit 0))) (.seq (.block 1 (.seq (.seq (.reg false (r73_7 φ) [(12, 0)]) (.cond (.n 12) (.exit 1) (.skip))) (.seq (.reg false (r73_8 φ) [(6, 0)]) (.seq (.reg false (r73_9 φ) []) (.seq (.seq (.reg false (r73_10 φ) [(7, 0)]) (.block 2 (.loop (l73_21 φ)))) (.reg false (r73_22 φ) [(3, 0)])))))) (.reg false (r73_23 φ) [(5, 0)]))
def r73_25 (φ : Nat → Nat) : List AOper := [
  ⟨0, .N .mv, [.n 3], none, 0⟩,
  ⟨1, .N .mv, [.l 0], none, 0⟩]
def b73 (φ : Nat → Nat) : ACode := .seq (.reg false (r73_0 φ) [(1, 1), (2, 0)]) (.seq (.reg false (r73_1 φ) [(3, 0)]) (.seq (.seq (.reg false (r73_2 φ) [(10, 0)]) (.cond (.n 10) (.seq (.reg false (r73_3 φ) [(2, 0)]) (.ret)) (.skip))) (.seq (.reg false (r73_4 φ) [(4, 0)]) (.seq (.seq (.reg false (r73_5 φ) [(5, 0)]) (.block 0 (.loop (l73_24 φ)))) (.seq (.reg false (r73_25 φ) [(2, 0)]) (.ret))))))
def f73 (φ : Nat → Nat) : AFn := ⟨1, [0, 1, 2, 3, 4, 5, 6, 7, 8, 9, 13, 21, 27, 36, 48, 58], 78, b73 φ, [.t 2]⟩
/-! 82: (*carcanet/carcanetref04.Part).Is: 0:p 1:a 2: -/
def r82_0 (φ : Nat → Nat) : List AOper := [
  ⟨0, .N .mv, [.c (.bool false)], none, 0⟩]
def r82_1 (φ : Nat → Nat) : List AOper := [
  ⟨0, .N .mv, [.n 1], none, 0⟩,
  ⟨1, .N (.bin .geq), [.l 0, .c (.int .i64 0)], none, 0⟩,
  ⟨2, .N .mv, [.l 0], none, 0⟩,
  ⟨3, .N .mv, [.n 1], some (.l 0, true), 0⟩,
  ⟨4, .N .mv, [.n 0], some (.l 1, true), 0⟩,
  ⟨5, .N .nilc, [.l 0], some (.l 2, true), 0⟩,
  ⟨6, .N (.fadd 0), [.l 0], some (.l 3, true), 0⟩,
  ⟨7, .N .load1, [.l 0], some (.l 4, true), 0⟩,
  ⟨8, .N .lenS, [.l 0], some (.l 5, true), 0⟩,
  ⟨9, .N (.bin .lss), [.l 5, .l 0], some (.l 6, true), 0⟩,
  ⟨10, .N .pick, [.l 7, .l 0, .c (.bool false)], none, 0⟩,
  ⟨11, .N .mv, [.l 0], none, 0⟩]
def b82 (φ : Nat → Nat) : ACode := .seq (.reg false (r82_0 φ) [(2, 0)]) (.seq (.reg false (r82_1 φ) [(2, 0)]) (.ret))
def f82 (φ : Nat → Nat) : AFn := ⟨2, [0, 1, 4], 16, b82 φ, [.t 2]⟩
end Go.Ai.G
/- Functions of the program (package cmp) as code of the abstract machine: written by a program of this session out of the elaborated operations. -/
namespace Go.Ai.G
set_option maxRecDepth 100000
set_option linter.unusedVariables false
/-! 35: cmp.Compare[int]: 0:x 1:y 2: 3:xNaN 4:yNaN 5: 6: 7: 8: 9: -/
def r35_0 (φ : Nat → Nat) : List AOper := [
  ⟨0, .N .mv, [.c (.int .i64 0)], none, 0⟩]
def r35_1 (φ : Nat → Nat) : List AOper := [
  ⟨0, .N .mv, [.n 0], none, 0⟩,
  ⟨1, .calli true (φ 37), [.l 0], none, 0⟩,
  ⟨2, .N .mv, [.l 0], none, 0⟩]
def r35_2 (φ : Nat → Nat) : List AOper := [
  ⟨0, .N .mv, [.n 1], none, 0⟩,
  ⟨1, .calli true (φ 37), [.l 0], none, 0⟩,
  ⟨2, .N .mv, [.l 0], none, 0⟩]
def r35_3 (φ : Nat → Nat) : List AOper := [
  ⟨0, .N .mv, [.n 3], none, 0⟩]
def r35_4 (φ : Nat → Nat) : List AOper := [
  ⟨0, .N .mv, [.n 4], none, 0⟩]
def r35_5 (φ : Nat → Nat) : List AOper := [
  ⟨0, .N .mv, [.c (.int .i64 0)], none, 0⟩]
def r35_6 (φ : Nat → Nat) : List AOper := [
  ⟨0, .N .mv, [.c (.int .i64 (-1))], none, 0⟩]
def r35_7 (φ : Nat → Nat) : List AOper := [
  ⟨0, .N .mv, [.n 4], none, 0⟩]
def r35_8 (φ : Nat → Nat) : List AOper := [
  ⟨0, .N .mv, [.c (.int .i64 1)], none, 0⟩]
def r35_9 (φ : Nat → Nat) : List AOper := [
  ⟨0, .N .mv, [.n 0], none, 0⟩,
  ⟨1, .N .mv, [.n 1], none, 0⟩,
  ⟨2, .N (.bin .lss), [.l 1, .l 0], none, 0⟩]
def r35_10 (φ : Nat → Nat) : List AOper := [
  ⟨0, .N .mv, [.c (.int .i64 (-1))], none, 0⟩]
def r35_11 (φ : Nat → Nat) : List AOper := [
  ⟨0, .N .mv, [.n 0], none, 0⟩,
  ⟨1, .N .mv, [.n 1], none, 0⟩,
  ⟨2, .N (.bin .gtr), [.l 1, .l 0], none, 0⟩]
def r35_12 (φ : Nat → Nat) : List AOper := [
  ⟨0, .N .mv, [.c (.int .i64 1)], none, 0⟩]
def r35_13 (φ : Nat → Nat) : List AOper := [
  ⟨0, .N .mv, [.c (.int .i64 0)], none, 0⟩]
def b35 (φ : Nat → Nat) : ACode := .seq (.reg false (r35_0 φ) [(2, 0)]) (.seq (.reg false (r35_1 φ) [(3, 0)]) (.seq (.reg false (r35_2 φ) [(4, 0)]) (.seq (.seq (.reg false (r35_3 φ) [(5, 0)]) (.cond (.n 5) (.seq (.seq (.reg false (r35_4 φ) [(6, 0)]) (.cond (.n 6) (.seq (.reg false (r35_5 φ) [(2, 0)]) (.ret)) (.skip))) (.seq (.reg false (r35_6 φ) [(2, 0)]) (.ret))) (.skip))) (.seq (.seq (.reg false (r35_7 φ) [(7, 0)]) (.cond (.n 7) (.seq (.reg false (r35_8 φ) [(2, 0)]) (.ret)) (.skip))) (.seq (.seq (.reg false (r35_9 φ) [(8, 0)]) (.cond (.n 8) (.seq (.reg false (r35_10 φ) [(2, 0)]) (.ret)) (.skip))) (.seq (.seq (.reg false (r35_11 φ) [(9, 0)]) (.cond (.n 9) (.seq (.reg false (r35_12 φ) [(2, 0)]) (.ret)) (.skip))) (.seq (.reg false (r35_13 φ) [(2, 0)]) (.ret))))))))
def f35 (φ : Nat → Nat) : AFn := ⟨2, [0, 1, 4, 5, 6, 11, 12, 13, 16, 19], 20, b35 φ, [.t 2]⟩
/-! 36: cmp.Or[int]: 0:vals 1: 2:zero 3:val 4: 5: 6: 7: 8: -/
def r36_0 (φ : Nat → Nat) : List AOper := [
  ⟨0, .N .mv, [.c (.int .i64 0)], none, 0⟩]
def r36_1 (φ : Nat → Nat) : List AOper := [
  ⟨0, .N .mv, [.c (.int .i64 0)], none, 0⟩]
def r36_2 (φ : Nat → Nat) : List AOper := [
  ⟨0, .N .mv, [.n 0], none, 0⟩,
  ⟨1, .N .lenS, [.l 0], none, 0⟩,
  ⟨2, .N .mv, [.c (.int .i64 0)], none, 0⟩]
def r36_3 (φ : Nat → Nat) : List AOper := [
  ⟨0, .N (.bin .lss), [.n 6, .n 5], none, 0⟩]
def r36_4 (φ : Nat → Nat) : List AOper := [
  ⟨0, .N (.idx 1), [.n 4, .n 6], none, 0⟩,
  ⟨1, .N .load1, [.l 0], none, 0⟩,
  ⟨2, .N .mv, [.l 0], none, 0⟩]
def r36_5 (φ : Nat → Nat) : List AOper := [
  ⟨0, .N .mv, [.n 3], none, 0⟩,
  ⟨1, .N .mv, [.n 2], none, 0⟩,
  ⟨2, .N (.bin .neq), [.l 1, .l 0], none, 0⟩]
def r36_6 (φ : Nat → Nat) : List AOper := [
  ⟨0, .N .mv, [.n 3], none, 0⟩,
  ⟨1, .N .mv, [.l 0], none, 0⟩]
def r36_7 (φ : Nat → Nat) : List AOper := [
  ⟨0, .N (.bin .add), [.n 6, .c (.int .i64 1)], none, 0⟩,
  ⟨1, .N .mv, [.l 0], none, 0⟩]
def l36_8 (φ : Nat → Nat) : ACode := .seq (.reg false (r36_3 φ) [(7, 0)]) (.seq (.cond (.n 7) (.skip) (.exit 0)) (.seq (.block 1 (.seq (.reg false (r36_4 φ) [(3, 0)]) (.seq (.reg false (r36_5 φ) [(8, 0)]) (.cond (.n 8) (.seq (.reg false (r36_6 φ) [(1, 0)]) (.ret)) (.skip))))) (.reg false (r36_7 φ) [(6, 0)])))
def r36_9 (φ : Nat → Nat) : List AOper := [
  ⟨0, .N .mv, [.n 2], none, 0⟩,
  ⟨1, .N .mv, [.l 0], none, 0⟩]
def b36 (φ : Nat → Nat) : ACode := .seq (.reg false (r36_0 φ) [(1, 0)]) (.seq (.reg false (r36_1 φ) [(2, 0)]) (.seq (.seq (.reg false (r36_2 φ) [(4, 2), (5, 1), (6, 0)]) (.block 0 (.loop (l36_8 φ)))) (.seq (.reg false (r36_9 φ) [(1, 0)]) (.ret))))
def f36 (φ : Nat → Nat) : AFn := ⟨1, [0, 2, 3, 5, 6, 7, 8, 9, 14], 18, b36 φ, [.t 1]⟩
/-! 37: cmp.isNaN[int]: 0:x 1: -/
def r37_0 (φ : Nat → Nat) : List AOper := [
  ⟨0, .N .mv, [.c (.bool false)], none, 0⟩]
def r37_1 (φ : Nat → Nat) : List AOper := [
  ⟨0, .N .mv, [.n 0], none, 0⟩,
  ⟨1, .N .mv, [.n 0], none, 0⟩,
  ⟨2, .N (.bin .neq), [.l 1, .l 0], none, 0⟩,
  ⟨3, .N .mv, [.l 0], none, 0⟩]
def b37 (φ : Nat → Nat) : ACode := .seq (.reg false (r37_0 φ) [(1, 0)]) (.seq (.reg false (r37_1 φ) [(1, 0)]) (.ret))
def f37 (φ : Nat → Nat) : AFn := ⟨1, [0, 2], 6, b37 φ, [.t 1]⟩
end Go.Ai.G
