/- A part of what the law leans on: the abstract machine, the contracts, the rows. -/
import Derived.Orders
import Derived.Laws.Sem
import Derived.Laws.World
import Derived.Laws.Cells
import Derived.Laws.Rows
import Derived.Laws.Append
import Derived.Below
import Derived.ChangeKeysEq
import Derived.KernelRfl
/- An abstract machine for Go code without addresses, orders and capacities: its values, its memory, and what it has to do with the model's. -/
namespace Go.Ai
set_option linter.unusedSectionVars false

/-- An abstract value. A pointer names an object, its age, and a cell; a slice an object, its age, its first cell, its length, how many cells an element takes, how many elements there is room for at least (just so many where 'ex'). -/
inductive AV where
  | un
  | bool (b : Bool)
  | int (k : IntKind) (n : Int)
  | str (s : ByteArray)
  | nilp
  | ptr (b g o : Nat)
  | nils
  | sl (b g o n sz cl : Nat) (ex : Bool)
  | nilm
  | mp (b : Nat)
  | nilf
  | fn (f : Fn) (first cap : List AV)
  | nili
  | iface (t : TypeId) (v : AV)
  | agg (xs : List AV)
  | tup (xs : List AV)
  | vs (n sz : Nat) (xs : List AV)
  | vp (xs : List AV) (o : Nat)
  deriving Inhabited

mutual
/-- Does a value name no object? -/
def AV.closed : AV → Bool
  | .bool _ | .int _ _ | .str _ | .nilp | .nils | .nilm | .nilf | .nili => true
  | .agg xs => AV.closeds xs
  | .tup xs => AV.closeds xs
  | .vs _ _ xs => AV.closeds xs
  | .vp xs _ => AV.closeds xs
  | .iface _ v => v.closed
  | .fn _ x y => AV.closeds x && AV.closeds y
  | .un | .ptr _ _ _ | .sl _ _ _ _ _ _ _ | .mp _ => false
def AV.closeds : List AV → Bool
  | [] => true
  | x :: xs => x.closed && AV.closeds xs
end
theorem closeds_iff : ∀ {xs : List AV}, AV.closeds xs = true ↔ ∀ (i : Nat) x, xs[i]? = some x → x.closed = true
  | [] => by simp [AV.closeds]
  | x :: xs => by
    simp only [AV.closeds, Bool.and_eq_true, closeds_iff (xs := xs)]
    constructor
    · rintro ⟨h1, h2⟩ i y hy
      cases i with
      | zero => simp at hy; subst hy; exact h1
      | succ i => exact h2 i y (by simpa using hy)
    · intro h
      exact ⟨h 0 x (by simp), fun i y hy => h (i + 1) y (by simpa using hy)⟩
theorem closeds_sub {xs : List AV} (h : AV.closeds xs = true) (a n : Nat) : AV.closeds ((xs.drop a).take n) = true := by
  rw [closeds_iff] at h ⊢
  intro i x hx
  rw [List.getElem?_take] at hx
  split at hx
  · rw [List.getElem?_drop] at hx; exact h _ _ hx
  · cases hx
theorem closeds_append {xs ys : List AV} : AV.closeds (xs ++ ys) = (AV.closeds xs && AV.closeds ys) := by
  induction xs with
  | nil => simp [AV.closeds]
  | cons x xs ih => simp [AV.closeds, ih, Bool.and_assoc]
/-- An object of the abstract memory. -/
inductive Ob where
  | dead
  | cells (g : Nat) (ro : Bool) (c : List AV)
  | sit (s : ByteArray) (pos : Nat)
  deriving Inhabited

abbrev Heap := List Ob

def Ob.gen : Ob → Nat
  | .cells g _ _ => g
  | _ => 0
def Ob.rw : Ob → Bool
  | .dead => false
  | .cells _ ro _ => !ro
  | .sit _ _ => true

/-- Where an object lies: its block, the first cell, how many cells are its own. -/
structure At where
  blk : Nat
  off : Nat
  ext : Nat
  deriving DecidableEq

/-- Where the objects lie; and what of the memory changes no more. -/
structure Mu where
  pl : Nat → Nat → Option At
  im : Nat → Nat → Option Value
instance : CoeFun Mu (fun _ => Nat → Nat → Option At) := ⟨Mu.pl⟩
structure Mu.le (μ ν : Mu) : Prop where
  pl : ∀ b g a, μ b g = some a → ν b g = some a
  im : ∀ k o u, μ.im k o = some u → ν.im k o = some u
instance (μ ν : Mu) : CoeFun (Mu.le μ ν) (fun _ => ∀ b g a, μ b g = some a → ν b g = some a) := ⟨Mu.le.pl⟩
theorem Mu.le_refl (μ : Mu) : μ.le μ := ⟨fun _ _ _ h => h, fun _ _ _ h => h⟩
theorem Mu.le_trans {μ ν ρ : Mu} (h : μ.le ν) (k : ν.le ρ) : μ.le ρ := ⟨fun b g a e => k b g a (h b g a e), fun b g a e => k.im b g a (h.im b g a e)⟩
def Mu.set (μ : Mu) (b g : Nat) (a : At) : Mu := ⟨fun b' g' => if b' = b ∧ g' = g then some a else μ b' g', μ.im⟩
theorem Mu.set_im (μ : Mu) (b g : Nat) (a : At) : (μ.set b g a).im = μ.im := rfl
theorem Mu.set_same (μ : Mu) (b g : Nat) (a : At) : μ.set b g a b g = some a := by simp [Mu.set]
theorem Mu.set_other (μ : Mu) {b g b' g' : Nat} (a : At) (h : ¬ (b' = b ∧ g' = g)) : μ.set b g a b' g' = μ b' g' := by simp [Mu.set, h]
theorem Mu.le_set {μ : Mu} {b g : Nat} (a : At) (h : μ b g = none) : μ.le (μ.set b g a) := by
  refine ⟨fun b' g' a' e => ?_, fun _ _ _ e => e⟩
  by_cases hh : b' = b ∧ g' = g
  · obtain ⟨rfl, rfl⟩ := hh; rw [h] at e; cases e
  · rw [Mu.set_other _ _ hh]; exact e

/-- The abstract value v stands for the value u. -/
inductive VR (μ : Mu) : AV → Value → Prop where
  | un (u : Value) : VR μ .un u
  | bool (b : Bool) : VR μ (.bool b) (.bool b)
  | int (k : IntKind) (n : Int) : VR μ (.int k n) (.int k n)
  | str (s : ByteArray) : VR μ (.str s) (.string s)
  | nilp : VR μ .nilp (.pointer none)
  | ptr {b g o : Nat} {a : At} (h : μ b g = some a) : VR μ (.ptr b g o) (.pointer (some ⟨a.blk, a.off + o, none⟩))
  | nils : VR μ .nils (.slice none 0 0)
  | sl {b g o n sz cl c : Nat} {ex : Bool} {p : Addr} (hn : n ≤ cl) (hc : cl ≤ c) (he : ex = true → c = cl)
      (h : 0 < cl → ∃ a, μ b g = some a ∧ p = ⟨a.blk, a.off + o, none⟩ ∧ (ex = false → o + c * sz ≤ a.ext)) : VR μ (.sl b g o n sz cl ex) (.slice (some p) n c)
  | nilm : VR μ .nilm (.map none)
  | mp {b : Nat} {a : At} (h : μ b 0 = some a) : VR μ (.mp b) (.map (some a.blk))
  | nilf : VR μ .nilf .nilFunc
  | fn {f : Fn} {first cap : List AV} {first' cap' : List Value} (h1 : first.length = first'.length) (h2 : ∀ (i : Nat) x y, first[i]? = some x → first'[i]? = some y → VR μ x y)
      (h3 : cap.length = cap'.length) (h4 : ∀ (i : Nat) x y, cap[i]? = some x → cap'[i]? = some y → VR μ x y) : VR μ (.fn f first cap) (.func f first'.toArray cap'.toArray)
  | nili : VR μ .nili .nilIface
  | iface {t : TypeId} {v : AV} {u : Value} (h : VR μ v u) : VR μ (.iface t v) (.iface t u)
  | agg {xs : List AV} {ys : List Value} (h1 : xs.length = ys.length) (h2 : ∀ (i : Nat) x y, xs[i]? = some x → ys[i]? = some y → VR μ x y) : VR μ (.agg xs) (.agg ys.toArray)
  | tup {xs : List AV} {ys : List Value} (h1 : xs.length = ys.length) (h2 : ∀ (i : Nat) x y, xs[i]? = some x → ys[i]? = some y → VR μ x y) : VR μ (.tup xs) (.tuple ys.toArray)
  | vs {n sz c k off : Nat} {p : Addr} {xs : List AV} {ys : List Value} (hn : n ≤ c) (hl : xs.length = n * sz) (hp : 0 < xs.length → p = ⟨k, off, none⟩) (h1 : xs.length = ys.length)
      (h2 : ∀ (i : Nat) x y, xs[i]? = some x → ys[i]? = some y → VR μ x y) (h3 : ∀ (i : Nat) y, ys[i]? = some y → μ.im k (off + i) = some y) (h4 : AV.closeds xs = true) : VR μ (.vs n sz xs) (.slice (some p) n c)
  | vp {o k off : Nat} {xs : List AV} {ys : List Value} (h1 : xs.length = ys.length) (h2 : ∀ (i : Nat) x y, xs[i]? = some x → ys[i]? = some y → VR μ x y)
      (h3 : ∀ (i : Nat) y, ys[i]? = some y → μ.im k (off + i) = some y) (h4 : AV.closeds xs = true) : VR μ (.vp xs o) (.pointer (some ⟨k, off + o, none⟩))

theorem VR.mono {μ ν : Mu} (hle : μ.le ν) {v : AV} {u : Value} (h : VR μ v u) : VR ν v u := by
  induction h with
  | un u => exact .un u
  | bool b => exact .bool b
  | int k n => exact .int k n
  | str s => exact .str s
  | nilp => exact .nilp
  | ptr h => exact .ptr (hle _ _ _ h)
  | nils => exact .nils
  | sl hn hc he h => exact .sl hn hc he fun h0 => let ⟨a, ha, e⟩ := h h0; ⟨a, hle _ _ _ ha, e⟩
  | nilm => exact .nilm
  | mp h => exact .mp (hle _ _ _ h)
  | nilf => exact .nilf
  | fn h1 _ h3 _ ih2 ih4 => exact .fn h1 ih2 h3 ih4
  | nili => exact .nili
  | iface _ ih => exact .iface ih
  | agg h1 _ ih => exact .agg h1 ih
  | tup h1 _ ih => exact .tup h1 ih
  | vs hn hl hp h1 _ h3 h4 ih => exact .vs hn hl hp h1 ih (fun i y e => hle.im _ _ _ (h3 i y e)) h4
  | vp h1 _ h3 h4 ih => exact .vp h1 ih (fun i y e => hle.im _ _ _ (h3 i y e)) h4
/-- What names no object stands wherever what changes no more is known. -/
theorem VR.shut {μ ν : Mu} (him : ∀ k o u, μ.im k o = some u → ν.im k o = some u) {v : AV} {u : Value} (h : VR μ v u) : v.closed = true → VR ν v u := by
  induction h with
  | un u => intro hc; exact .un u
  | bool b => intro hc; exact .bool b
  | int k n => intro hc; exact .int k n
  | str s => intro hc; exact .str s
  | nilp => intro hc; exact .nilp
  | ptr h => intro hc; simp [AV.closed] at hc
  | nils => intro hc; exact .nils
  | sl hn hc he h => intro hc; simp [AV.closed] at hc
  | nilm => intro hc; exact .nilm
  | mp h => intro hc; simp [AV.closed] at hc
  | nilf => intro hc; exact .nilf
  | fn h1 _ h3 _ ih2 ih4 =>
    intro hc
    simp only [AV.closed, Bool.and_eq_true] at hc
    exact .fn h1 (fun i x y a b => ih2 i x y a b (closeds_iff.1 hc.1 i x a)) h3 (fun i x y a b => ih4 i x y a b (closeds_iff.1 hc.2 i x a))
  | nili => intro hc; exact .nili
  | iface _ ih => intro hc; exact .iface (ih (by simpa [AV.closed] using hc))
  | agg h1 _ ih => intro hc; simp only [AV.closed] at hc; exact .agg h1 (fun i x y a b => ih i x y a b (closeds_iff.1 hc i x a))
  | tup h1 _ ih => intro hc; simp only [AV.closed] at hc; exact .tup h1 (fun i x y a b => ih i x y a b (closeds_iff.1 hc i x a))
  | vs hn hl hp h1 _ h3 h4 ih => intro hc; exact .vs hn hl hp h1 (fun i x y a b => ih i x y a b (closeds_iff.1 h4 i x a)) (fun i y e => him _ _ _ (h3 i y e)) h4
  | vp h1 _ h3 h4 ih => intro hc; exact .vp h1 (fun i x y a b => ih i x y a b (closeds_iff.1 h4 i x a)) (fun i y e => him _ _ _ (h3 i y e)) h4

/-- Lists of values, one by one. -/
def VRs (μ : Mu) (xs : List AV) (ys : List Value) : Prop := xs.length = ys.length ∧ ∀ (i : Nat) x y, xs[i]? = some x → ys[i]? = some y → VR μ x y
theorem VR.vp_inv {μ : Mu} {xs : List AV} {o : Nat} {u : Value} (h : VR μ (.vp xs o) u) : ∃ k off ys, u = .pointer (some ⟨k, off + o, none⟩) ∧ VRs μ xs ys ∧ (∀ (i : Nat) y, ys[i]? = some y → μ.im k (off + i) = some y) ∧ AV.closeds xs = true := by
  cases h with
  | vp h1 h2 h3 h4 => exact ⟨_, _, _, rfl, ⟨h1, h2⟩, h3, h4⟩
theorem VR.vp_mk {μ : Mu} {xs : List AV} {o k off : Nat} {ys : List Value} (h1 : VRs μ xs ys) (h3 : ∀ (i : Nat) y, ys[i]? = some y → μ.im k (off + i) = some y) (h4 : AV.closeds xs = true) : VR μ (.vp xs o) (.pointer (some ⟨k, off + o, none⟩)) := .vp h1.1 h1.2 h3 h4
theorem VR.vs_inv {μ : Mu} {xs : List AV} {n sz : Nat} {u : Value} (h : VR μ (.vs n sz xs) u) : ∃ k off p c ys, u = .slice (some p) n c ∧ n ≤ c ∧ xs.length = n * sz ∧ (0 < xs.length → p = ⟨k, off, none⟩) ∧ VRs μ xs ys ∧ (∀ (i : Nat) y, ys[i]? = some y → μ.im k (off + i) = some y) ∧ AV.closeds xs = true := by
  cases h with
  | vs hn hl hp h1 h2 h3 h4 => exact ⟨_, _, _, _, _, rfl, hn, hl, hp, ⟨h1, h2⟩, h3, h4⟩
theorem VR.vs_mk {μ : Mu} {xs : List AV} {n sz c k off : Nat} {p : Addr} {ys : List Value} (hn : n ≤ c) (hl : xs.length = n * sz) (hp : 0 < xs.length → p = ⟨k, off, none⟩) (h1 : VRs μ xs ys) (h3 : ∀ (i : Nat) y, ys[i]? = some y → μ.im k (off + i) = some y) (h4 : AV.closeds xs = true) : VR μ (.vs n sz xs) (.slice (some p) n c) := .vs hn hl hp h1.1 h1.2 h3 h4
theorem VRs.nil (μ : Mu) : VRs μ [] [] := ⟨rfl, fun i x y h => by simp at h⟩
theorem VRs.cons {μ : Mu} {x : AV} {y : Value} {xs : List AV} {ys : List Value} (h : VR μ x y) (t : VRs μ xs ys) : VRs μ (x :: xs) (y :: ys) := by
  refine ⟨by simp [t.1], fun i a b ha hb => ?_⟩
  cases i with
  | zero => simp at ha hb; subst ha; subst hb; exact h
  | succ i => simp at ha hb; exact t.2 i a b ha hb
theorem VRs.head {μ : Mu} {x : AV} {y : Value} {xs : List AV} {ys : List Value} (h : VRs μ (x :: xs) (y :: ys)) : VR μ x y := h.2 0 x y (by simp) (by simp)
theorem VRs.tail {μ : Mu} {x : AV} {y : Value} {xs : List AV} {ys : List Value} (h : VRs μ (x :: xs) (y :: ys)) : VRs μ xs ys :=
  ⟨by simpa using h.1, fun i a b ha hb => h.2 (i + 1) a b (by simpa using ha) (by simpa using hb)⟩
theorem VRs.mono {μ ν : Mu} (hle : μ.le ν) {xs : List AV} {ys : List Value} (h : VRs μ xs ys) : VRs ν xs ys := ⟨h.1, fun i x y a b => (h.2 i x y a b).mono hle⟩
theorem VRs.cases_nil {μ : Mu} {ys : List Value} (h : VRs μ [] ys) : ys = [] := by
  have := h.1; simp at this; exact List.length_eq_zero_iff.1 this.symm
theorem VRs.cases_cons {μ : Mu} {x : AV} {xs : List AV} {ys : List Value} (h : VRs μ (x :: xs) ys) : ∃ y t, ys = y :: t ∧ VR μ x y ∧ VRs μ xs t := by
  cases ys with
  | nil => have := h.1; simp at this
  | cons y t => exact ⟨y, t, rfl, h.head, h.tail⟩
theorem VRs.append {μ : Mu} {xs xs' : List AV} {ys ys' : List Value} (h : VRs μ xs ys) (k : VRs μ xs' ys') : VRs μ (xs ++ xs') (ys ++ ys') := by
  refine ⟨by simp [h.1, k.1], fun i a b ha hb => ?_⟩
  rw [List.getElem?_append] at ha hb
  rw [h.1] at ha
  split at ha
  · rename_i hlt; rw [if_pos hlt] at hb; exact h.2 _ _ _ ha hb
  · rename_i hlt; rw [if_neg hlt] at hb; exact k.2 _ _ _ ha hb
theorem VRs.take {μ : Mu} {xs : List AV} {ys : List Value} (h : VRs μ xs ys) (n : Nat) : VRs μ (xs.take n) (ys.take n) := by
  refine ⟨by simp [h.1], fun i a b ha hb => ?_⟩
  rw [List.getElem?_take] at ha hb
  split at ha
  · rename_i hi; rw [if_pos hi] at hb; exact h.2 _ _ _ ha hb
  · cases ha
theorem VRs.drop {μ : Mu} {xs : List AV} {ys : List Value} (h : VRs μ xs ys) (n : Nat) : VRs μ (xs.drop n) (ys.drop n) := by
  refine ⟨by simp [h.1], fun i a b ha hb => ?_⟩
  rw [List.getElem?_drop] at ha hb
  exact h.2 _ _ _ ha hb
theorem VRs.get {μ : Mu} {xs : List AV} {ys : List Value} (h : VRs μ xs ys) {i : Nat} {x : AV} (hx : xs[i]? = some x) : ∃ y, ys[i]? = some y ∧ VR μ x y := by
  have hi : i < ys.length := by rw [← h.1]; exact (List.getElem?_eq_some_iff.1 hx).1
  exact ⟨ys[i], List.getElem?_eq_getElem hi, h.2 i x _ hx (List.getElem?_eq_getElem hi)⟩
theorem VRs.set {μ : Mu} {xs : List AV} {ys : List Value} (h : VRs μ xs ys) (n : Nat) {x : AV} {y : Value} (hxy : VR μ x y) : VRs μ (xs.set n x) (ys.set n y) := by
  refine ⟨by simp [h.1], fun i a b ha hb => ?_⟩
  rw [List.getElem?_set] at ha hb
  split at ha
  · rename_i e
    rw [if_pos e] at hb
    split at ha
    · rename_i hl
      rw [if_pos (by rw [← h.1]; exact hl)] at hb
      cases ha; cases hb; exact hxy
    · cases ha
  · rename_i e
    rw [if_neg e] at hb
    exact h.2 _ _ _ ha hb
theorem VRs.of_forall {μ : Mu} : ∀ {xs : List AV}, (∀ (i : Nat) x, xs[i]? = some x → ∃ y, VR μ x y) → ∃ ys, VRs μ xs ys
  | [], _ => ⟨[], .nil μ⟩
  | x :: xs, h => by
    obtain ⟨y, hy⟩ := h 0 x (by simp)
    obtain ⟨ys, hys⟩ := VRs.of_forall (xs := xs) (fun i a ha => h (i + 1) a (by simpa using ha))
    exact ⟨y :: ys, .cons hy hys⟩

/-- The cells that a value takes. -/
def AV.cells : AV → List AV
  | .agg xs => xs
  | v => [v]
/-- May the value lie in one cell? -/
def AV.one : AV → Bool
  | .agg _ | .tup _ | .un => false
  | _ => true
theorem VR.cells {μ : Mu} {v : AV} {u : Value} (h : VR μ v u) (hu : v ≠ .un) : VRs μ v.cells u.cells.toList := by
  cases h with
  | un => exact absurd rfl hu
  | agg h1 h2 => exact ⟨by simpa [AV.cells, Value.cells] using h1, by simpa [AV.cells, Value.cells] using h2⟩
  | _ => exact .cons (by constructor <;> assumption) (.nil μ)
theorem VR.one {μ : Mu} {v : AV} {u : Value} (h : VR μ v u) (hv : v.one = true) : u.oneCell' = true := by
  cases h <;> first | rfl | simp [AV.one] at hv

/-- What an object's place holds. B: blocks below it are not ours. -/
def obR (B : Nat) (μ : Mu) (w : World) (a : At) : Ob → Prop
  | .dead => True
  | .cells _ ro c => a.blk < w.heap.size ∧ c.length ≤ a.ext ∧ (∀ (i : Nat) v, c[i]? = some v → ∃ u, w.cell? ⟨a.blk, a.off + i, none⟩ = some u ∧ VR μ v u) ∧ (ro = true → ∀ i, i < c.length → ∃ u, μ.im a.blk (a.off + i) = some u) ∧
      (ro = false → B ≤ a.blk ∧ ∀ i, i < a.ext → (∃ u, w.cell? ⟨a.blk, a.off + i, none⟩ = some u) ∧ w.frozen? ⟨a.blk, a.off + i, none⟩ = false)
  | .sit s p => B ≤ a.blk ∧ w.heap[a.blk]? = some (.stringIter s p)

theorem obR.lt {B : Nat} {μ : Mu} {w : World} {a : At} {ob : Ob} (h : obR B μ w a ob) (hd : ob ≠ .dead) : a.blk < w.heap.size := by
  cases ob with
  | dead => exact absurd rfl hd
  | cells g ro c => exact h.1
  | sit s p => exact (Array.getElem?_eq_some_iff.1 h.2).1
theorem obR.base {B : Nat} {μ : Mu} {w : World} {a : At} {ob : Ob} (h : obR B μ w a ob) (hr : ob.rw = true) : B ≤ a.blk := by
  cases ob with
  | dead => simp [Ob.rw] at hr
  | cells g ro c => exact (h.2.2.2.2 (by simpa [Ob.rw] using hr)).1
  | sit s p => exact h.1
theorem cell?_same {w w' : World} {k : Nat} (h : w'.heap[k]? = w.heap[k]?) (o : Nat) (s : Option Nat) : w'.cell? ⟨k, o, s⟩ = w.cell? ⟨k, o, s⟩ := by
  simp only [World.cell?, h]
theorem frozen?_same {w w' : World} {k : Nat} (h : w'.heap[k]? = w.heap[k]?) (o : Nat) (s : Option Nat) : w'.frozen? ⟨k, o, s⟩ = w.frozen? ⟨k, o, s⟩ := by
  simp only [World.frozen?, h]
theorem obR.keep {B : Nat} {μ ν : Mu} {w w' : World} {a : At} {ob : Ob} (h : obR B μ w a ob) (hle : μ.le ν) (hk : w'.heap[a.blk]? = w.heap[a.blk]?) (hs : w.heap.size ≤ w'.heap.size) : obR B ν w' a ob := by
  cases ob with
  | dead => trivial
  | cells g ro c =>
    obtain ⟨h0, h1, h2, hi, h3⟩ := h
    refine ⟨Nat.lt_of_lt_of_le h0 hs, h1, fun i v hv => ?_, fun hro i hl => let ⟨u, hu⟩ := hi hro i hl; ⟨u, hle.im _ _ _ hu⟩, fun hro => ⟨(h3 hro).1, fun i hi => ?_⟩⟩
    · obtain ⟨u, hu, hr⟩ := h2 i v hv
      exact ⟨u, by rw [cell?_same hk]; exact hu, hr.mono hle⟩
    · rw [cell?_same hk, frozen?_same hk]; exact (h3 hro).2 i hi
  | sit s p => exact ⟨h.1, by rw [hk]; exact h.2⟩

/-- The abstract memory H stands for the world w. -/
structure HR (B : Nat) (μ : Mu) (H : Heap) (w : World) : Prop where
  ob : ∀ (b : Nat) o, H[b]? = some o → o ≠ .dead → ∃ a, μ b o.gen = some a ∧ obR B μ w a o
  sep : ∀ (b b' : Nat) o o' a a', H[b]? = some o → H[b']? = some o' → b ≠ b' → o.rw = true → o' ≠ .dead → μ b o.gen = some a → μ b' o'.gen = some a' → a.blk ≠ a'.blk
  gen : ∀ (b : Nat) o g a, H[b]? = some o → o ≠ .dead → μ b g = some a → g ≤ o.gen
  fresh : ∀ b g, H.length ≤ b → μ b g = none
  base : B ≤ w.heap.size
  im : ∀ k o u, μ.im k o = some u → k < w.heap.size ∧ w.cell? ⟨k, o, none⟩ = some u
  imsep : ∀ (b : Nat) o a k j u, H[b]? = some o → o.rw = true → μ b o.gen = some a → μ.im k j = some u → a.blk ≠ k

/-- Whether one keeps count of what is drawn. -/
class DrMode where
  m : Bool
variable [DrMode]
/-- What a step may change: H, H1: the abstract memory ahead of it and behind it. -/
structure Ext (H H1 : Heap) (μ ν : Mu) (w w' : World) : Prop where
  le : μ.le ν
  len : H.length ≤ H1.length
  calm : ∀ (b : Nat) o, H[b]? = some o → o.rw = false → H1[b]? = some o ∧ ∀ g, ν b g = μ b g
  blk : ∀ (b : Nat) o1 a, H1[b]? = some o1 → o1 ≠ .dead → ν b o1.gen = some a →
      w.heap.size ≤ a.blk ∨ ∃ o a0, H[b]? = some o ∧ o ≠ .dead ∧ (o1.rw = true → o.rw = true) ∧ μ b o.gen = some a0 ∧ a0.blk = a.blk
  frame : ∀ (k : Nat), k < w.heap.size → (∀ (b : Nat) o a, H[b]? = some o → o.rw = true → μ b o.gen = some a → a.blk ≠ k) → w'.heap[k]? = w.heap[k]?
  size : w.heap.size ≤ w'.heap.size
  os : w'.os = w.os
  tape : w'.tape = w.tape
  output : w'.output = w.output
  drawn : DrMode.m = true → w.drawn ≤ w'.drawn
  im : ∀ k o u, ν.im k o = some u → μ.im k o = some u ∨ w.heap.size ≤ k ∨ ∃ b ob a, H[b]? = some ob ∧ ob.rw = true ∧ μ b ob.gen = some a ∧ a.blk = k

theorem Ext.refl (H : Heap) (μ : Mu) (w : World) : Ext H H μ μ w w :=
  ⟨Mu.le_refl μ, Nat.le_refl _, fun _ _ hb _ => ⟨hb, fun _ => rfl⟩, fun _ o a hb hr ha => .inr ⟨o, a, hb, hr, fun h => h, ha, rfl⟩, fun _ _ _ => rfl, Nat.le_refl _, rfl, rfl, rfl, fun _ => Nat.le_refl _, fun _ _ _ h => .inl h⟩

theorem Ext.trans {H H1 H2 : Heap} {μ ν ρ : Mu} {w w1 w2 : World} (h : Ext H H1 μ ν w w1) (k : Ext H1 H2 ν ρ w1 w2) : Ext H H2 μ ρ w w2 where
  le := Mu.le_trans h.le k.le
  len := Nat.le_trans h.len k.len
  calm b o hb hr := by
    obtain ⟨h1, h2⟩ := h.calm b o hb hr
    obtain ⟨k1, k2⟩ := k.calm b o h1 hr
    exact ⟨k1, fun g => (k2 g).trans (h2 g)⟩
  blk b o2 a hb hr ha := by
    rcases k.blk b o2 a hb hr ha with hk | ⟨o1, a1, hb1, hr1, hw1, ha1, e1⟩
    · exact .inl (Nat.le_trans h.size hk)
    · rcases h.blk b o1 a1 hb1 hr1 ha1 with hh | ⟨o, a0, hb0, hr0, hw0, ha0, e0⟩
      · exact .inl (by rw [← e1]; exact hh)
      · exact .inr ⟨o, a0, hb0, hr0, fun h => hw0 (hw1 h), ha0, e0.trans e1⟩
  frame j hj hne := by
    rw [k.frame j (Nat.lt_of_lt_of_le hj h.size) ?_, h.frame j hj hne]
    intro b o a hb hr ha he
    rcases h.blk b o a hb (fun e => by rw [e] at hr; simp [Ob.rw] at hr) ha with hh | ⟨o0, a0, hb0, hr0, hw0, ha0, e0⟩
    · omega
    · exact hne b o0 a0 hb0 (hw0 hr) ha0 (e0.trans he)
  size := Nat.le_trans h.size k.size
  os := k.os.trans h.os
  tape := k.tape.trans h.tape
  output := k.output.trans h.output
  drawn hm := Nat.le_trans (h.drawn hm) (k.drawn hm)
  im j o u hu := by
    rcases k.im j o u hu with h1 | h1 | ⟨b, ob, a, hb, hr, ha, e⟩
    · exact h.im j o u h1
    · exact .inr (.inl (Nat.le_trans h.size h1))
    · rcases h.blk b ob a hb (fun e => by rw [e] at hr; simp [Ob.rw] at hr) ha with hh | ⟨o0, a0, hb0, _, hw0, ha0, e0⟩
      · exact .inr (.inl (by omega))
      · exact .inr (.inr ⟨b, o0, a0, hb0, hw0 hr, ha0, e0.trans e⟩)

theorem drew_keep (w : World) (k : Nat) : w.drew.heap[k]? = w.heap[k]? := rfl
theorem HR.drew {B : Nat} {μ : Mu} {H : Heap} {w : World} (h : HR B μ H w) : HR B μ H w.drew :=
  ⟨fun b o hb hd => let ⟨a, ha, hr⟩ := h.ob b o hb hd; ⟨a, ha, hr.keep (Mu.le_refl μ) rfl (Nat.le_refl _)⟩, h.sep, h.gen, h.fresh, h.base, h.im, h.imsep⟩
theorem Ext.drew {H H1 : Heap} {μ ν : Mu} {w w' : World} (h : Ext H H1 μ ν w w') : Ext H H1 μ ν w w'.drew := ⟨h.le, h.len, h.calm, h.blk, h.frame, h.size, h.os, h.tape, h.output, fun hm => Nat.le_trans (h.drawn hm) (Nat.le_succ _), h.im⟩

/-- Less is asked where objects are dead. -/
theorem HR.hide {B : Nat} {μ : Mu} {H H' : Heap} {w : World} (h : HR B μ H w) (hl : H.length ≤ H'.length) (hd : ∀ (b : Nat) o, H'[b]? = some o → o ≠ .dead → H[b]? = some o) : HR B μ H' w where
  ob b o hb ho := h.ob b o (hd b o hb ho) ho
  sep b b' o o' a a' hb hb' hne hr ho' ha ha' := h.sep b b' o o' a a' (hd b o hb (fun e => by rw [e] at hr; simp [Ob.rw] at hr)) (hd b' o' hb' ho') hne hr ho' ha ha'
  gen b o g a hb ho ha := h.gen b o g a (hd b o hb ho) ho ha
  fresh b g hb := h.fresh b g (Nat.le_trans hl hb)
  base := h.base
  im := h.im
  imsep b o a k j u hb hr ha hu := h.imsep b o a k j u (hd b o hb (fun e => by rw [e] at hr; simp [Ob.rw] at hr)) hr ha hu

/-- A new object, at its number. -/
theorem HR.new {B : Nat} {μ : Mu} {H : Heap} {w : World} (h : HR B μ H w) (o : Obj) (ob : Ob) (a : At) (hblk : a.blk = w.heap.size) (hg : ob.gen = 0)
    (hob : obR B (μ.set H.length 0 a) (w.alloc o) a ob) : HR B (μ.set H.length 0 a) (H ++ [ob]) (w.alloc o) ∧ Ext H (H ++ [ob]) μ (μ.set H.length 0 a) w (w.alloc o) := by
  have hfr : μ H.length 0 = none := h.fresh _ _ (Nat.le_refl _)
  have hle := Mu.le_set (μ := μ) a hfr
  have hold : ∀ b o', (H ++ [ob])[b]? = some o' → b ≠ H.length → H[b]? = some o' := by
    intro b o' hb hne
    rw [List.getElem?_append] at hb
    split at hb
    · exact hb
    · rename_i hlt
      have : b - H.length ≠ 0 := by omega
      obtain ⟨m, hm⟩ : ∃ m, b - H.length = m + 1 := ⟨b - H.length - 1, by omega⟩
      rw [hm] at hb; simp at hb
  have hmu : ∀ b g, b ≠ H.length → (μ.set H.length 0 a) b g = μ b g := fun b g hne => Mu.set_other _ _ (fun e => hne e.1)
  have hnew : ∀ o', (H ++ [ob])[H.length]? = some o' → o' = ob := by intro o' e; simp at e; exact e.symm
  have hheap : ∀ k, k < w.heap.size → (w.alloc o).heap[k]? = w.heap[k]? := fun k hk => heap_alloc_old w o k hk
  refine ⟨⟨?_, ?_, ?_, ?_, ?_, ?_, ?_⟩, ⟨hle, by simp, ?_, ?_, ?_, by simp, rfl, rfl, rfl, fun _ => Nat.le_refl _, fun _ _ _ h => .inl h⟩⟩
  · intro b o' hb hd
    by_cases hbl : b = H.length
    · subst hbl; rw [hnew o' hb] at hd ⊢; rw [hg]; exact ⟨a, Mu.set_same _ _ _ _, hob⟩
    · obtain ⟨a', ha', hr'⟩ := h.ob b o' (hold b o' hb hbl) hd
      exact ⟨a', hle _ _ _ ha', hr'.keep hle (hheap _ (hr'.lt hd)) (by simp)⟩
  · intro b b' o1 o2 a1 a2 hb hb' hne hr hd' ha1 ha2
    by_cases hbl : b = H.length
    · subst hbl
      have e1 := hnew o1 hb; subst e1; rw [hg, Mu.set_same] at ha1; cases ha1
      have hb2 := hold b' o2 hb' (fun e => hne e.symm)
      rw [hmu _ _ (fun e => hne e.symm)] at ha2
      obtain ⟨a', ha', hr'⟩ := h.ob b' o2 hb2 hd'
      rw [ha'] at ha2; cases ha2
      have := hr'.lt hd'; omega
    · have hb1 := hold b o1 hb hbl
      rw [hmu _ _ hbl] at ha1
      have hd1 : o1 ≠ .dead := fun e => by rw [e] at hr; simp [Ob.rw] at hr
      by_cases hbl' : b' = H.length
      · subst hbl'
        have e2 := hnew o2 hb'; subst e2; rw [hg, Mu.set_same] at ha2; cases ha2
        obtain ⟨a', ha', hr'⟩ := h.ob b o1 hb1 hd1
        rw [ha'] at ha1; cases ha1
        have := hr'.lt hd1; omega
      · rw [hmu _ _ hbl'] at ha2
        exact h.sep b b' o1 o2 a1 a2 hb1 (hold b' o2 hb' hbl') hne hr hd' ha1 ha2
  · intro b o' g a' hb hd ha'
    by_cases hbl : b = H.length
    · subst hbl
      by_cases hg0 : g = 0
      · omega
      · rw [Mu.set_other _ _ (fun e => hg0 e.2), h.fresh _ _ (Nat.le_refl _)] at ha'; cases ha'
    · rw [hmu _ _ hbl] at ha'; exact h.gen b o' g a' (hold b o' hb hbl) hd ha'
  · intro b g hb
    simp at hb
    rw [hmu _ _ (by omega)]; exact h.fresh b g (by omega)
  · have := h.base; simp; omega
  · intro k j u hu
    obtain ⟨h1, h2⟩ := h.im k j u hu
    exact ⟨by simp; omega, by rw [cell?_same (hheap k h1)]; exact h2⟩
  · intro b o' a' k j u hb hr ha' hu
    obtain ⟨h1, _⟩ := h.im k j u hu
    by_cases hbl : b = H.length
    · subst hbl
      have e1 := hnew o' hb; subst e1; rw [hg, Mu.set_same] at ha'; cases ha'; omega
    · rw [hmu _ _ hbl] at ha'
      exact h.imsep b o' a' k j u (hold b o' hb hbl) hr ha' hu
  · intro b o' hb hr
    have hlt : b < H.length := (List.getElem?_eq_some_iff.1 hb).1
    exact ⟨by rw [List.getElem?_append_left hlt]; exact hb, fun g => hmu b g (by omega)⟩
  · intro b o1 a1 hb hr ha1
    by_cases hbl : b = H.length
    · subst hbl; have e1 := hnew o1 hb; subst e1; rw [hg, Mu.set_same] at ha1; cases ha1; left; omega
    · right; rw [hmu _ _ hbl] at ha1; exact ⟨o1, a1, hold b o1 hb hbl, hr, fun h => h, ha1, rfl⟩
  · intro k hk _; exact hheap k hk


/-! ### An object that is written no more -/
def frzOb : Ob → Ob
  | .cells g _ c => .cells g true c
  | o => o
def Mu.frz (μ : Mu) (w : World) (a : At) (n : Nat) : Mu := ⟨μ.pl, fun k o => if k = a.blk then (if a.off ≤ o ∧ o < a.off + n then w.cell? ⟨k, o, none⟩ else none) else μ.im k o⟩
theorem HR.freeze {B : Nat} {μ : Mu} {H : Heap} {w : World} {b g : Nat} {c : List AV} (h : HR B μ H w) (hb : H[b]? = some (.cells g false c)) :
    ∃ ν : Mu, HR B ν (H.set b (.cells g true c)) w ∧ Ext H (H.set b (.cells g true c)) μ ν w w := by
  obtain ⟨a, ha, h0, h1, h2, _, h3⟩ := h.ob b _ hb (by simp)
  simp only [Ob.gen] at ha
  have hno : ∀ j u, μ.im a.blk j ≠ some u := fun j u hu => h.imsep b _ a a.blk j u hb rfl ha hu rfl
  have hle : μ.le (μ.frz w a c.length) := ⟨fun _ _ _ e => e, fun k o u e => by
    have hk : k ≠ a.blk := fun hk => hno o u (hk ▸ e)
    simp only [Mu.frz, if_neg hk]; exact e⟩
  have hlt : b < H.length := (List.getElem?_eq_some_iff.1 hb).1
  have hsame : (H.set b (.cells g true c))[b]? = some (.cells g true c) := by simp [hlt]
  have hoth : ∀ b', b' ≠ b → (H.set b (.cells g true c))[b']? = H[b']? := fun b' hne => by rw [List.getElem?_set_ne (fun e => hne e.symm)]
  have hold : ∀ b' o, (H.set b (.cells g true c))[b']? = some o → o.rw = true → b' ≠ b ∧ H[b']? = some o := by
    intro b' o hb' hr
    by_cases e : b' = b
    · subst e; rw [hsame] at hb'; cases hb'; cases hr
    · rw [hoth b' e] at hb'; exact ⟨e, hb'⟩
  refine ⟨μ.frz w a c.length, ⟨?_, ?_, ?_, ?_, h.base, ?_, ?_⟩, ⟨hle, by simp, ?_, ?_, fun _ _ _ => rfl, Nat.le_refl _, rfl, rfl, rfl, fun _ => Nat.le_refl _, ?_⟩⟩
  · intro b' o hb' hd
    by_cases e : b' = b
    · subst e; rw [hsame] at hb'; cases hb'
      refine ⟨a, ha, h0, h1, fun i v hv => ?_, fun _ i hi => ?_, fun hf => by cases hf⟩
      · obtain ⟨u, hu, hr⟩ := h2 i v hv; exact ⟨u, hu, hr.mono hle⟩
      · obtain ⟨u, hu⟩ := ((h3 rfl).2 i (by omega)).1
        exact ⟨u, by simp only [Mu.frz, if_true]; rw [if_pos ⟨by omega, by omega⟩]; exact hu⟩
    · rw [hoth b' e] at hb'
      obtain ⟨a', ha', hr'⟩ := h.ob b' o hb' hd
      exact ⟨a', ha', hr'.keep hle rfl (Nat.le_refl _)⟩
  · intro b1 b2 o1 o2 a1 a2 hb1 hb2 hne hr hd ha1 ha2
    obtain ⟨_, hb1'⟩ := hold b1 o1 hb1 hr
    by_cases e : b2 = b
    · subst e; rw [hsame] at hb2; cases hb2
      exact h.sep b1 b2 o1 _ a1 a2 hb1' hb hne hr (by simp) ha1 ha2
    · rw [hoth b2 e] at hb2; exact h.sep b1 b2 o1 o2 a1 a2 hb1' hb2 hne hr hd ha1 ha2
  · intro b' o g' a' hb' hd ha'
    by_cases e : b' = b
    · subst e; rw [hsame] at hb'; cases hb'; exact h.gen b' (.cells g false c) g' a' hb (by simp) ha'
    · rw [hoth b' e] at hb'; exact h.gen b' o g' a' hb' hd ha'
  · intro b' g' hb'; simp at hb'; exact h.fresh b' g' hb'
  · intro k o u hu
    by_cases hk : k = a.blk
    · subst hk
      simp only [Mu.frz, if_true] at hu
      split at hu
      · exact ⟨h0, hu⟩
      · cases hu
    · simp only [Mu.frz, if_neg hk] at hu; exact h.im k o u hu
  · intro b' o a' k j u hb' hr ha' hu
    obtain ⟨e, hb2⟩ := hold b' o hb' hr
    by_cases hk : k = a.blk
    · subst hk
      exact h.sep b' b o _ a' a hb2 hb e hr (by simp) ha' ha
    · simp only [Mu.frz, if_neg hk] at hu; exact h.imsep b' o a' k j u hb2 hr ha' hu
  · intro b' o hb' hr
    have e : b' ≠ b := fun e => by subst e; rw [hb] at hb'; cases hb'; cases hr
    exact ⟨by rw [hoth b' e]; exact hb', fun _ => rfl⟩
  · intro b' o1 x hb' hd hx
    by_cases e : b' = b
    · subst e; rw [hsame] at hb'; cases hb'
      exact .inr ⟨.cells g false c, x, hb, by simp, fun h => (by cases h), hx, rfl⟩
    · rw [hoth b' e] at hb'; exact .inr ⟨o1, x, hb', hd, fun h => h, hx, rfl⟩
  · intro k o u hu
    by_cases hk : k = a.blk
    · subst hk; exact .inr (.inr ⟨b, _, a, hb, rfl, ha, rfl⟩)
    · simp only [Mu.frz, if_neg hk] at hu; exact .inl hu
end Go.Ai
/- The operations that write to no object: what they answer, how they are held against the model's, and that they do as the model's. -/
namespace Go.Ai
set_option linter.unusedSectionVars false
variable [DrMode]
set_option linter.unusedVariables false
set_option linter.unusedSimpArgs false

mutual
/-- A constant, held against a value of the model. -/
def sameV : AV → Value → Bool
  | .bool a, .bool b => a == b
  | .int k n, .int k' n' => k == k' && n == n'
  | .str s, .string s' => s.data.toList == s'.data.toList
  | .nilp, .pointer none => true
  | .nils, .slice none 0 0 => true
  | .nilm, .map none => true
  | .nilf, .nilFunc => true
  | .nili, .nilIface => true
  | .fn f [] [], .func f' first cap => f == f' && first.size == 0 && cap.size == 0
  | .iface t v, .iface t' u => t == t' && sameV v u
  | .agg xs, .agg ys => sameVs xs ys.toList
  | .tup xs, .tuple ys => sameVs xs ys.toList
  | _, _ => false
def sameVs : List AV → List Value → Bool
  | [], [] => true
  | x :: xs, y :: ys => sameV x y && sameVs xs ys
  | _, _ => false
end
theorem agg_arr (ys : Array Value) : Value.agg ys = .agg ys.toList.toArray := by simp
theorem tup_arr (ys : Array Value) : Value.tuple ys = .tuple ys.toList.toArray := by simp
theorem VR.agg' {μ : Mu} {xs : List AV} {ys : Array Value} (h : VRs μ xs ys.toList) : VR μ (.agg xs) (.agg ys) := by rw [agg_arr]; exact .agg h.1 h.2
theorem VR.tup' {μ : Mu} {xs : List AV} {ys : Array Value} (h : VRs μ xs ys.toList) : VR μ (.tup xs) (.tuple ys) := by rw [tup_arr]; exact .tup h.1 h.2
mutual
theorem sameV_spec (μ : Mu) : ∀ (v : AV) (u : Value), sameV v u = true → VR μ v u := by
  intro v u h
  match v, u with
  | .bool a, .bool b => simp [sameV] at h; subst h; exact .bool _
  | .int k n, .int k' n' => simp [sameV] at h; obtain ⟨rfl, rfl⟩ := h; exact .int _ _
  | .str s, .string s' =>
    simp only [sameV, beq_iff_eq] at h
    have e : s = s' := by cases s; cases s'; simp_all
    subst e; exact .str _
  | .nilp, .pointer none => exact .nilp
  | .nils, .slice none 0 0 => exact .nils
  | .nilm, .map none => exact .nilm
  | .nilf, .nilFunc => exact .nilf
  | .nili, .nilIface => exact .nili
  | .fn f [] [], .func f' first cap =>
    simp [sameV] at h
    obtain ⟨⟨rfl, h1⟩, h2⟩ := h
    subst h1; subst h2
    exact .fn (first' := []) (cap' := []) rfl (by simp) rfl (by simp)
  | .iface t v, .iface t' u => simp [sameV] at h; obtain ⟨rfl, h⟩ := h; exact .iface (sameV_spec μ v u h)
  | .agg xs, .agg ys => simp only [sameV] at h; exact .agg' (sameVs_spec μ xs ys.toList h)
  | .tup xs, .tuple ys => simp only [sameV] at h; exact .tup' (sameVs_spec μ xs ys.toList h)
  | .un, _ => simp [sameV] at h
theorem sameVs_spec (μ : Mu) : ∀ (xs : List AV) (ys : List Value), sameVs xs ys = true → VRs μ xs ys := by
  intro xs ys h
  match xs, ys with
  | [], [] => exact .nil μ
  | x :: xs, y :: ys => simp [sameVs] at h; exact .cons (sameV_spec μ x y h.1) (sameVs_spec μ xs ys h.2)
  | [], _ :: _ => simp [sameVs] at h
  | _ :: _, [] => simp [sameVs] at h
end

/-! ### Values -/
/-- Is it nil? Of the kinds: 0 a pointer, 1 a slice, 2 a map, 3 a function, 4 an interface. -/
def AV.isNilK : Nat → AV → Option Bool
  | 0, .nilp | 1, .nils | 2, .nilm | 3, .nilf | 4, .nili => some true
  | 0, .ptr .. | 1, .sl .. | 2, .mp .. | 3, .fn .. | 4, .iface .. => some false
  | 0, .vp .. | 1, .vs .. => some false
  | _, _ => none

/-- Two numbers, or two texts. -/
def binV : BinOp → AV → AV → Option AV
  | .shl, .int k a, .int _ b => if b < 0 then none else some (.int k (k.wrap (a * 2 ^ (min b.toNat k.bits))))
  | .shr, .int k a, .int _ b => if b < 0 then none else some (.int k (a.fdiv (2 ^ (min b.toNat k.bits))))
  | op, .int k a, .int k' b => if k = k' then
      match op with
      | .add => some (.int k (k.wrap (a + b)))
      | .sub => some (.int k (k.wrap (a - b)))
      | .mul => some (.int k (k.wrap (a * b)))
      | .quo => if b = 0 then none else some (.int k (k.wrap (a.tdiv b)))
      | .rem => if b = 0 then none else some (.int k (a.tmod b))
      | .and => some (.int k (k.wrap (BitVec.ofInt k.bits a &&& BitVec.ofInt k.bits b).toNat))
      | .or => some (.int k (k.wrap (BitVec.ofInt k.bits a ||| BitVec.ofInt k.bits b).toNat))
      | .xor => some (.int k (k.wrap (BitVec.ofInt k.bits a ^^^ BitVec.ofInt k.bits b).toNat))
      | .andNot => some (.int k (k.wrap (BitVec.ofInt k.bits a &&& ~~~BitVec.ofInt k.bits b).toNat))
      | .eql => some (.bool (a == b))
      | .neq => some (.bool (a != b))
      | .lss => some (.bool (decide (a < b)))
      | .leq => some (.bool (decide (a ≤ b)))
      | .gtr => some (.bool (decide (a > b)))
      | .geq => some (.bool (decide (a ≥ b)))
      | _ => none
    else none
  | op, .str x, .str y =>
      match op with
      | .add => if ((x.size + y.size : Nat) : Int) > IntKind.i64.max then none else some (.str (x ++ y))
      | .eql => some (.bool (x.toList == y.toList))
      | .neq => some (.bool (!(x.toList == y.toList)))
      | .lss => some (.bool (Op.bytesLess x.toList y.toList))
      | .leq => some (.bool (Op.bytesLess x.toList y.toList || x.toList == y.toList))
      | .gtr => some (.bool (!(Op.bytesLess x.toList y.toList || x.toList == y.toList)))
      | .geq => some (.bool (!(Op.bytesLess x.toList y.toList)))
      | _ => none
  | _, _, _ => none

/-- Two numbers (kind 1), bools (0), texts (2). -/
def eqSc : Nat → AV → AV → Option Bool
  | 1, .int k a, .int k' b => if k = k' then some (a == b) else none
  | 0, .bool a, .bool b => some (a == b)
  | 2, .str a, .str b => some (a == b)
  | _, _, _ => none
def eqScs : List Nat → List AV → List AV → Option Bool
  | [], [], [] => some true
  | k :: ks, x :: xs, y :: ys => match eqSc k x y with
    | some true => eqScs ks xs ys
    | some false => some false
    | none => none
  | _, _, _ => none
def unV : UnOp → AV → Option AV
  | .not, .bool b => some (.bool !b)
  | .neg, .int k n => some (.int k (k.wrap (0 - n)))
  | .xor, .int k n => some (.int k (k.wrap (BitVec.ofInt k.bits (if k.signed then -1 else k.max) ^^^ BitVec.ofInt k.bits n).toNat))
  | _, _ => none
def minV : AV → AV → Option AV
  | .int k x, .int k' y => if k = k' then some (.int k (if y < x then y else x)) else none
  | _, _ => none
def maxV : AV → AV → Option AV
  | .int k x, .int k' y => if k = k' then some (.int k (if y > x then y else x)) else none
  | _, _ => none
def foldV (f : AV → AV → Option AV) : AV → List AV → Option AV
  | x, [] => some x
  | x, y :: ys => match f x y with | some z => foldV f z ys | none => none

def AV.part : AV → Bool
  | .un | .tup _ => false
  | _ => true
/-- Parts are laid over cells, each at its place, of its size. -/
def fillA : List (Nat × Nat) → List AV → List AV → Option (List AV)
  | [], [], c => some c
  | (off, n) :: ps, v :: vs, c =>
    if v.cells.length = n ∧ off + n ≤ c.length ∧ v.part = true then fillA ps vs (c.take off ++ v.cells ++ c.drop (off + n)) else none
  | _, _, _ => none
def repA (z : List AV) : Nat → List AV
  | 0 => []
  | n + 1 => z ++ repA z n

/-- What an operation answers: a value, or a new object and the value that names it. -/
inductive NRes where
  | val (v : AV)
  | new (ob : Ob) (mk : Nat → AV)

inductive NOp where
  | mv
  | pick
  | bin (op : BinOp)
  | eqB (neg : Bool)
  | eqN (k : Nat) (neg : Bool)
  | eqS (ks : List Nat) (neg : Bool)
  | un (op : UnOp)
  | conv (k : IntKind)
  | fadd (off : Nat)
  | fld1 (off : Nat)
  | fldN (off n : Nat)
  | idx (sz : Nat)
  | idxA (len sz : Nat)
  | idxS
  | idxV1 (len : Nat)
  | idxVN (len sz : Nat)
  | ext (i : Nat)
  | lenS
  | lenT
  | lenA (n : Nat)
  | min
  | max
  | build (z : List AV) (ps : List (Nat × Nat))
  | mkfn (fn : Fn) (n : Nat)
  | mki (t : TypeId)
  | tas (t : TypeId) (z : List AV)
  | tasf (t : TypeId)
  | nilc
  | slc (sz : Nat) (lo hi mx : Bool)
  | slcT (lo hi : Bool)
  | slcA (len sz : Nat) (lo hi : Bool)
  | load1
  | loadN (n : Nat)
  | alloc (z : List AV)
  | box
  | bsl (z : List AV) (n sz : Nat) (ps : List (Nat × Nat))
  | mksl (z : List AV) (sz bytes : Nat)

def intArg : AV → Option Int
  | .int _ n => some n
  | _ => none
/-- The three bounds of a slice expression, 'cap' being what room there is at least. -/
def bounds3 (len cap : Nat) : Bool → Bool → Bool → List AV → Option (Nat × Nat × Nat)
  | lo, hi, mx, vs =>
    let (l?, vs) := if lo then (match vs with | v :: r => (intArg v, r) | [] => (none, [])) else (some 0, vs)
    let (h?, vs) := if hi then (match vs with | v :: r => (intArg v, r) | [] => (none, [])) else (some (len : Int), vs)
    let m? := if mx then (match vs with | [v] => intArg v | _ => none) else some (cap : Int)
    match l?, h?, m? with
    | some l, some h, some m => if 0 ≤ l ∧ l ≤ h ∧ h ≤ m ∧ m ≤ (cap : Int) then some (l.toNat, h.toNat, m.toNat) else none
    | _, _, _ => none

def nstep (o : NOp) (vs : List AV) (rd : Nat → Option Ob) : Option NRes :=
  match o with
  | .mv => (match vs with
    | [v] => some (.val v)
    | _ => none)
  | .pick => (match vs with
    | [.bool c, a, b] => some (.val (if c then a else b))
    | _ => none)
  | .bin op => (match vs with
    | [x, y] => (binV op x y).map .val
    | _ => none)
  | .eqB neg => (match vs with
    | [.bool a, .bool b] => some (.val (.bool ((a == b) != neg)))
    | _ => none)
  | .eqN k neg => (match vs with
    | [x, y] => (match x.isNilK k, y.isNilK k with
          | some a, some b => if a || b then some (.val (.bool ((a && b) != neg))) else none
          | _, _ => none)
    | _ => none)
  | .eqS ks neg => (match vs with
    | [.agg x, .agg y] => (eqScs ks x y).map fun b => .val (.bool (b != neg))
    | _ => none)
  | .un op => (match vs with
    | [x] => (unV op x).map .val
    | _ => none)
  | .conv k => (match vs with
    | [.int _ n] => some (.val (.int k (k.wrap n)))
    | _ => none)
  | .fadd off => (match vs with
    | [.ptr b g o] => some (.val (.ptr b g (o + off)))
    | [.vp xs o] => some (.val (.vp xs (o + off)))
    | _ => none)
  | .fld1 off => (match vs with
    | [.agg xs] => (xs[off]?).map .val
    | _ => none)
  | .fldN off n => (match vs with
    | [.agg xs] => if off + n ≤ xs.length then some (.val (.agg ((xs.drop off).take n))) else none
    | _ => none)
  | .idx sz => (match vs with
    | [.sl b g o n _ _ _, .int _ i] => if 0 ≤ i ∧ i < (n : Int) then some (.val (.ptr b g (o + i.toNat * sz))) else none
    | [.vs n sz' xs, .int _ i] => if sz' = sz ∧ 0 < sz ∧ 0 ≤ i ∧ i < (n : Int) then some (.val (.vp xs (i.toNat * sz))) else none
    | _ => none)
  | .idxA len sz => (match vs with
    | [.ptr b g o, .int _ i] => if 0 ≤ i ∧ i < (len : Int) then some (.val (.ptr b g (o + i.toNat * sz))) else none
    | [.vp xs o, .int _ i] => if 0 ≤ i ∧ i < (len : Int) then some (.val (.vp xs (o + i.toNat * sz))) else none
    | _ => none)
  | .idxS => (match vs with
    | [.str s, .int _ i] => if 0 ≤ i then (s[i.toNat]?).map fun b => .val (.int .u8 b.toNat) else none
    | _ => none)
  | .idxV1 len => (match vs with
    | [.agg xs, .int _ i] => if 0 ≤ i ∧ i < (len : Int) then (xs[i.toNat]?).map .val else none
    | _ => none)
  | .idxVN len sz => (match vs with
    | [.agg xs, .int _ i] => if 0 ≤ i ∧ i < (len : Int) ∧ i.toNat * sz + sz ≤ xs.length then some (.val (.agg ((xs.drop (i.toNat * sz)).take sz))) else none
    | _ => none)
  | .ext i => (match vs with
    | [.tup xs] => (xs[i]?).map .val
    | _ => none)
  | .lenS => (match vs with
    | [.sl _ _ _ n _ _ _] => some (.val (.int .i64 n))
    | [.nils] => some (.val (.int .i64 0))
    | [.vs n _ _] => some (.val (.int .i64 n))
    | _ => none)
  | .lenT => (match vs with
    | [.str s] => some (.val (.int .i64 s.size))
    | _ => none)
  | .lenA n => (match vs with
    | [_] => some (.val (.int .i64 n))
    | _ => none)
  | .min => (match vs with
    | x :: xs => (foldV minV x xs).map .val
    | _ => none)
  | .max => (match vs with
    | x :: xs => (foldV maxV x xs).map .val
    | _ => none)
  | .build z ps => (match vs with
    | vs => (fillA ps vs z).map fun c => .val (.agg c))
  | .mkfn fn n => (match vs with
    | vs => some (.val (.fn fn (vs.take n) (vs.drop n))))
  | .mki t => (match vs with
    | [v] => some (.val (.iface t v))
    | _ => none)
  | .tas t z => (match vs with
    | [.iface t' v] => some (.val (if t' = t then .tup [v, .bool true] else .tup [.agg z, .bool false]))
    | [.nili] => some (.val (.tup [.agg z, .bool false]))
    | _ => none)
  | .tasf t => (match vs with
    | [.iface t' v] => if t' = t then some (.val v) else none
    | _ => none)
  | .nilc => (match vs with
    | [.ptr b g o] => some (.val (.ptr b g o))
    | [.vp xs o] => some (.val (.vp xs o))
    | [.iface t v] => some (.val (.iface t v))
    | [.fn (.func f) a b] => some (.val (.fn (.func f) a b))
    | _ => none)
  | .slc sz lo hi mx => (match vs with
    | .sl b g o n sz' cl ex :: r => if sz' = sz then (bounds3 n cl lo hi mx r).map fun (l, h, m) => .val (.sl b g (o + l * sz) (h - l) sz (m - l) (ex || mx)) else none
    | .nils :: r => (match bounds3 0 0 lo hi mx r with
          | some (0, 0, 0) => some (.val .nils)
          | _ => none)
    | .vs n sz' xs :: r => if sz' = sz then (bounds3 n n lo hi mx r).map fun (l, h, m) => .val (if mx ∧ m = l then .sl 0 0 0 0 sz 0 true else .vs (h - l) sz ((xs.drop (l * sz)).take ((h - l) * sz))) else none
    | _ => none)
  | .slcT lo hi => (match vs with
    | .str s :: r => (bounds3 s.size s.size lo hi false r).map fun (l, h, _) => .val (.str (s.extract l h))
    | _ => none)
  | .slcA len sz lo hi => (match vs with
    | .ptr b g o :: r => (bounds3 len len lo hi false r).map fun (l, h, m) => .val (.sl b g (o + l * sz) (h - l) sz (m - l) true)
    | _ => none)
  | .load1 => (match vs with
    | [.ptr b g o] => (match rd b with
          | some (.cells g' _ c) => if g' = g then (c[o]?).map .val else none
          | _ => none)
    | [.vp xs o] => (xs[o]?).map .val
    | _ => none)
  | .loadN n => (match vs with
    | [.ptr b g o] => (match rd b with
          | some (.cells g' _ c) => if g' = g ∧ o + n ≤ c.length then some (.val (.agg ((c.drop o).take n))) else none
          | _ => none)
    | [.vp xs o] => if o + n ≤ xs.length then some (.val (.agg ((xs.drop o).take n))) else none
    | _ => none)
  | .alloc z => (match vs with
    | [] => some (.new (.cells 0 false z) fun b => .ptr b 0 0)
    | _ => none)
  | .box => (match vs with
    | [v] => if v.cells.all (·.one) then some (.new (.cells 0 false v.cells) fun b => .ptr b 0 0) else none
    | _ => none)
  | .bsl z n sz ps => (match vs with
    | vs => (fillA ps vs (repA z n)).map fun c => .new (.cells 0 false c) fun b => .sl b 0 0 n sz n true)
  | .mksl z sz bytes => (match vs with
    | [.int _ l, .int _ c] => if 0 ≤ l ∧ l ≤ c ∧ c ≤ 4294967296 ∧ c * (bytes : Int) ≤ 140737488355328 then some (.new (.cells 0 false (repA z c.toNat)) fun b => .sl b 0 0 l.toNat sz c.toNat true) else none
    | _ => none)

def ntouch (o : NOp) (vs : List AV) : Option Nat :=
  match o with
  | .load1 => (match vs with
    | [.ptr b _ _] => some b
    | _ => none)
  | .loadN _ => (match vs with
    | [.ptr b _ _] => some b
    | _ => none)
  | _ => none
/-! ### Held against the model's operations -/
def nargs : Op → List Operand
  | .move x | .assign x => [x]
  | .pick c a b => [c, a, b]
  | .box _ x | .load _ x | .nilCheck x | .unOp _ _ x | .convert _ _ x | .makeInterface _ x | .fieldAddr _ x _ | .field _ x _ | .extract x _ => [x]
  | .build _ ps | .buildSlice _ _ ps => ps.toList.map (·.2)
  | .binOp _ _ x y _ => [x, y]
  | .indexAddr _ x i | .index _ x i | .makeSlice _ x i => [x, i]
  | .slice _ x lo hi mx => x :: (lo.toList ++ hi.toList ++ mx.toList)
  | .makeFunc _ first cap => first.toList ++ cap.toList
  | .call c => c.args.toList
  | .typeAssert x _ _ _ => [x]
  | _ => []
def isNilConst : Operand → Bool
  | .const (.pointer none) | .const (.slice none _ _) | .const (.map none) | .const .nilFunc | .const .nilIface => true
  | _ => false
def scalarKind : Option TypeDesc → Option Nat
  | some .bool => some 0
  | some (.int _) => some 1
  | some .string => some 2
  | _ => none
/-- The fields of a struct of numbers, bools and texts, one behind the other. -/
def flatFields (P : Program) : List Field → List Nat → Nat → Bool
  | [], [], _ => true
  | f :: r, q :: qs, k => f.offset == k && f.name != "_" && scalarKind (P.underlying f.type) == some q && flatFields P r qs (k + 1)
  | _, _, _ => false
def placesOf (P : Program) (t : TypeId) (parts : List (Nat × Operand)) (ps : List (Nat × Nat)) : Bool :=
  match P.underlying t with
  | some (.struct fs) => fs.all (fun f => (P.info? f.type).isSome) && (parts.map fun p => (fs[p.1]?).map fun f => (f.offset, P.cellsOf f.type)) == ps.map some
  | some (.array _ e) => (P.info? e).isSome && (parts.map fun p => (p.1 * P.cellsOf e, P.cellsOf e)) == ps
  | _ => false
def zeroIs (P : Program) (t : TypeId) (z : List AV) : Bool :=
  match P.info? t with
  | some i => (match i.zero with | some v => sameVs z v.cells.toList | none => false)
  | none => false

/-- A struct's cells, at rest. -/
def zeroAgg (P : Program) (t : TypeId) (z : List AV) : Bool :=
  match P.info? t with
  | some i => (match i.zero with | some (.agg ys) => sameVs z ys.toList | _ => false)
  | none => false
def nilKind : Option TypeDesc → Option Nat
  | some (.pointer _) => some 0
  | some (.slice _) => some 1
  | some (.map ..) => some 2
  | some (.func ..) => some 3
  | some (.interface _) => some 4
  | _ => none
def chkN (P : Program) (o : NOp) (op : Op) : Bool :=
  match o with
  | .mv => (match op with
    | .move _ => true
    | .assign _ => true
    | _ => false)
  | .pick => (match op with
    | .pick .. => true
    | _ => false)
  | .bin b => (match op with
    | .binOp b' .. => b == b'
    | _ => false)
  | .eqB neg => (match op with
    | .binOp b t _ _ _ => (b == if neg then .neq else .eql) && (P.underlying t matches some .bool)
    | _ => false)
  | .eqN k neg => (match op with
    | .binOp b t x y _ => (b == if neg then .neq else .eql) && nilKind (P.underlying t) == some k && (isNilConst x || isNilConst y)
    | _ => false)
  | .eqS ks neg => (match op with
    | .binOp b t _ _ _ => (b == if neg then .neq else .eql) && (match P.underlying t with | some (.struct fs) => flatFields P fs.toList ks 0 && !P.stoodInHeld t && !P.eqGuardType P.depth t | _ => false)
    | _ => false)
  | .un u => (match op with
    | .unOp u' _ _ => u == u'
    | _ => false)
  | .conv k => (match op with
    | .convert s d _ => (P.underlying s).isSome && (match P.underlying d with | some (.int k') => k == k' | _ => false)
    | _ => false)
  | .fadd off => (match op with
    | .fieldAddr s _ f => (match P.underlying s with | some (.struct fs) => (match fs[f]? with | some fd => fd.offset == off && (match P.info? fd.type with | some i => i.size != 0 | none => false) | none => false) | _ => false)
    | _ => false)
  | .fld1 off => (match op with
    | .field s _ f => (match P.underlying s with | some (.struct fs) => (match fs[f]? with | some fd => fd.offset == off && (match P.underlying fd.type with | some (.struct _) | some (.array ..) | none => false | _ => true) | none => false) | _ => false)
    | _ => false)
  | .fldN off n => (match op with
    | .field s _ f => (match P.underlying s with | some (.struct fs) => (match fs[f]? with | some fd => fd.offset == off && (match P.info? fd.type with | some i => i.size == n | none => false) && (P.underlying fd.type matches some (.struct _) | some (.array ..)) | none => false) | _ => false)
    | _ => false)
  | .idx sz => (match op with
    | .indexAddr t _ _ => (match P.underlying t with | some (.slice e) => (match P.info? e with | some i => i.size == sz | none => false) | _ => false)
    | _ => false)
  | .idxA len sz => (match op with
    | .indexAddr t _ _ => (match P.underlying t with | some (.array n e) => n == len && (match P.info? e with | some i => i.size == sz | none => false) | _ => false)
    | _ => false)
  | .idxS => (match op with
    | .index t _ _ => (P.underlying t matches some .string)
    | _ => false)
  | .idxV1 len => (match op with
    | .index t _ _ => (match P.underlying t with | some (.array n e) => n == len && (match P.info? e with | some i => i.size == 1 | none => false) && (match P.underlying e with | some (.struct _) | some (.array ..) | none => false | _ => true) | _ => false)
    | _ => false)
  | .idxVN len sz => (match op with
    | .index t _ _ => (match P.underlying t with | some (.array n e) => n == len && (match P.info? e with | some i => i.size == sz | none => false) && (P.underlying e matches some (.struct _) | some (.array ..)) | _ => false)
    | _ => false)
  | .ext i => (match op with
    | .extract _ i' => i == i'
    | _ => false)
  | .lenS => (match op with
    | .call c => (c.callee matches .builtin .len) && c.args.size == 1 && (match c.argTypes[0]? with | some t => (P.underlying t matches some (.slice _)) | none => false)
    | _ => false)
  | .lenT => (match op with
    | .call c => (c.callee matches .builtin .len) && c.args.size == 1 && (match c.argTypes[0]? with | some t => (P.underlying t matches some .string) | none => false)
    | _ => false)
  | .lenA n => (match op with
    | .call c => (c.callee matches .builtin .len) && c.args.size == 1 && (match c.argTypes[0]? with | some t => (match P.underlying t with | some (.array k _) => k == n | _ => false) | none => false)
    | _ => false)
  | .min => (match op with
    | .call c => (c.callee matches .builtin .min)
    | _ => false)
  | .max => (match op with
    | .call c => (c.callee matches .builtin .max)
    | _ => false)
  | .build z ps => (match op with
    | .build t parts => zeroIs P t z && placesOf P t parts.toList ps
    | _ => false)
  | .mkfn fn n => (match op with
    | .makeFunc fn' first _ => fn == fn' && first.size == n
    | _ => false)
  | .mki t => (match op with
    | .makeInterface t' _ => t == t' && (match P.underlying t with | some (.interface _) | none => false | _ => true)
    | _ => false)
  | .tas t z => (match op with
    | .typeAssert _ _ t' ok => t == t' && ok && zeroAgg P t z && (P.underlying t matches some (.struct _))
    | _ => false)
  | .tasf t => (match op with
    | .typeAssert _ _ t' ok => t == t' && !ok && (P.underlying t matches some (.struct _))
    | _ => false)
  | .nilc => (match op with
    | .nilCheck _ => true
    | _ => false)
  | .slc sz lo hi mx => (match op with
    | .slice t _ l h m => (match P.underlying t with | some (.slice e) => (match P.info? e with | some i => i.size == sz | none => false) | _ => false) && lo == l.isSome && hi == h.isSome && mx == m.isSome && (hi || !mx)
    | _ => false)
  | .slcT lo hi => (match op with
    | .slice t _ l h m => (P.underlying t matches some .string) && lo == l.isSome && hi == h.isSome && m.isNone
    | _ => false)
  | .slcA len sz lo hi => (match op with
    | .slice t _ l h m => (match P.underlying t with | some (.array n e) => n == len && (match P.info? e with | some i => i.size == sz | none => false) | _ => false) && lo == l.isSome && hi == h.isSome && m.isNone
    | _ => false)
  | .load1 => (match op with
    | .load t _ => (match P.underlying t with | some (.struct _) | some (.array ..) | none => false | _ => true)
    | _ => false)
  | .loadN n => (match op with
    | .load t _ => (match P.info? t with | some i => i.size == n | none => false) && (P.underlying t matches some (.struct _) | some (.array ..))
    | _ => false)
  | .alloc z => (match op with
    | .alloc t => zeroIs P t z
    | _ => false)
  | .box => (match op with
    | .box _ _ => true
    | _ => false)
  | .bsl z n sz ps => (match op with
    | .buildSlice t n' parts => n == n' && decide (n * sz ≤ 16777216) && z.length == sz && decide (0 < sz) && (match P.underlying t with
      | some (.slice e) => zeroIs P e z && (match P.info? e with | some i => i.size == sz | none => false) && (parts.toList.map fun p => (p.1 * sz, sz)) == ps
      | _ => false)
    | _ => false)
  | .mksl z sz bytes => (match op with
    | .makeSlice t _ _ => z.length == sz && decide (0 < sz) && (match P.underlying t with
      | some (.slice e) => zeroIs P e z && (match P.info? e with | some i => i.size == sz && i.bytes == bytes | none => false)
      | _ => false)
    | _ => false)
end Go.Ai
/- The operations that write to no object do as the model's (part one). -/
namespace Go.Ai
set_option linter.unusedSectionVars false
variable [DrMode]
set_option linter.unusedVariables false
set_option linter.unusedSimpArgs false
variable {P : Program} {μ : Mu} {w : World} {ρ : Operand → Value} {o : Oper}

def Does (P : Program) (w : World) (ρ : Operand → Value) (o : Oper) (μ : Mu) (v : AV) : Prop := ∃ u, (execOp ρ o).run P w = .ok (.value u) w ∧ VR μ v u

theorem does_mv {x : Operand} {v : AV} (hop : o.op = .move x ∨ o.op = .assign x) (h : VR μ v (ρ x)) : Does P w ρ o μ v := by
  refine ⟨ρ x, ?_, h⟩
  rcases hop with hop | hop <;> simp [execOp, hop]
theorem does_pick {c a b : Operand} {t : Bool} {x y : AV} (hop : o.op = .pick c a b) (hc : VR μ (.bool t) (ρ c)) (hx : VR μ x (ρ a)) (hy : VR μ y (ρ b)) : Does P w ρ o μ (if t then x else y) := by
  cases hcv : ρ c <;> rw [hcv] at hc <;> cases hc
  refine ⟨if t then ρ a else ρ b, ?_, ?_⟩
  · simp [execOp, hop, hcv, asBool]
  · cases t <;> simp_all
theorem run_eqGuard_int (op : BinOp) (t : TypeId) (x y : Operand) (k k' : IntKind) (a b : Int) : (eqGuard op t x y (.int k a) (.int k' b)).run P w = .ok () w := by
  unfold eqGuard; split <;> simp
theorem run_eqGuard_str (op : BinOp) (t : TypeId) (x y : Operand) (a b : ByteArray) : (eqGuard op t x y (.string a) (.string b)).run P w = .ok () w := by
  unfold eqGuard; split <;> simp
theorem run_eqGuard_bool (op : BinOp) (t : TypeId) (x y : Operand) (a b : Bool) : (eqGuard op t x y (.bool a) (.bool b)).run P w = .ok () w := by
  unfold eqGuard; split <;> simp

theorem does_bin {op : BinOp} {t yt : TypeId} {x y : Operand} {a b v : AV} (hop : o.op = .binOp op t x y yt) (hx : VR μ a (ρ x)) (hy : VR μ b (ρ y)) (hv : binV op a b = some v) : Does P w ρ o μ v := by
  cases a <;> cases b <;> try (cases op <;> simp [binV] at hv; done)
  · rename_i k a k' b
    cases hxv : ρ x <;> rw [hxv] at hx <;> cases hx
    cases hyv : ρ y <;> rw [hyv] at hy <;> cases hy
    have key : ∀ u, (binOp op t (.int k a) (.int k' b)).run P w = .ok u w → VR μ v u → Does P w ρ o μ v := by
      intro u hu hr
      exact ⟨u, by simp [execOp, hop, hxv, hyv, run_eqGuard_int, hu], hr⟩
    by_cases hk : k = k'
    · subst hk
      cases op <;> simp only [binV, if_true] at hv
      case quo | rem =>
        split at hv
        · cases hv
        · rename_i h0; cases hv; exact key _ (by simp [binOp, Op.intDiv, h0]) (.int _ _)
      case shl | shr =>
        split at hv
        · cases hv
        · rename_i h0; cases hv; exact key _ (by simp [binOp, Op.shift, h0]) (.int _ _)
      all_goals (cases hv; first | exact key _ (by simp [binOp, Op.intArith, Op.intBits, Op.intCmp]) (.int _ _) | exact key _ (by simp [binOp, Op.intArith, Op.intBits, Op.intCmp]) (.bool _))
    · cases op <;> simp only [binV, hk, if_false] at hv <;> try (cases hv; done)
      all_goals
        split at hv
        · cases hv
        · rename_i h0; cases hv; exact key _ (by simp [binOp, Op.shift, h0]) (.int _ _)
  · rename_i a b
    cases hxv : ρ x <;> rw [hxv] at hx <;> cases hx
    cases hyv : ρ y <;> rw [hyv] at hy <;> cases hy
    have key : ∀ u, (binOp op t (.string a) (.string b)).run P w = .ok u w → VR μ v u → Does P w ρ o μ v := by
      intro u hu hr
      exact ⟨u, by simp [execOp, hop, hxv, hyv, run_eqGuard_str, hu], hr⟩
    cases op <;> simp only [binV] at hv <;> try (cases hv; done)
    case add =>
      split at hv
      · cases hv
      · rename_i h0; cases hv; exact key _ (by simp only [binOp, Op.stringOp]; rw [if_neg h0]; simp) (.str _)
    all_goals (cases hv; exact key _ (by simp [binOp, Op.stringOp]) (.bool _))

theorem run_equal_bool {t : TypeId} (ht : P.underlying t = some .bool) (a b : Bool) : (Op.equal t (.bool a) (.bool b)).run P w = .ok (a == b) w := by
  have h : ∀ d, (Op.equalIn (d + 1) t (.bool a) (.bool b)).run P w = .ok (a == b) w := fun d => by simp [Op.equalIn, run_underlying ht]
  exact h 9999
/-- '==' and '!=' of what 'Op.equal' tells. -/
theorem does_eq {op : BinOp} {neg : Bool} {t yt : TypeId} {x y : Operand} {b : Bool} (hop : o.op = .binOp op t x y yt) (hb : op = if neg then .neq else .eql)
    (hg : (eqGuard op t x y (ρ x) (ρ y)).run P w = .ok () w)
    (hbin : ∀ op, op = .eql ∨ op = .neq → binOp op t (ρ x) (ρ y) = (match op with | .eql => (do pure (.bool (← Op.equal t (ρ x) (ρ y)))) | _ => (do pure (.bool (!(← Op.equal t (ρ x) (ρ y)))))))
    (he : (Op.equal t (ρ x) (ρ y)).run P w = .ok b w) : Does P w ρ o μ (.bool (b != neg)) := by
  cases neg <;> simp only [if_true, if_false, Bool.false_eq_true] at hb <;> subst hb
  · refine ⟨.bool b, ?_, by simpa using .bool b⟩
    simp only [execOp, hop, Sem.run_bind, hg, Result.andThen_ok, hbin .eql (.inl rfl), he, Sem.run_pure]
  · refine ⟨.bool (!b), ?_, by simpa using .bool (!b)⟩
    simp only [execOp, hop, Sem.run_bind, hg, Result.andThen_ok, hbin .neq (.inr rfl), he, Sem.run_pure]
theorem does_eqB {op : BinOp} {neg : Bool} {t yt : TypeId} {x y : Operand} {a b : Bool} (hop : o.op = .binOp op t x y yt) (hb : op = if neg then .neq else .eql) (ht : P.underlying t = some .bool)
    (hx : VR μ (.bool a) (ρ x)) (hy : VR μ (.bool b) (ρ y)) : Does P w ρ o μ (.bool ((a == b) != neg)) := by
  cases hxv : ρ x <;> rw [hxv] at hx <;> cases hx
  cases hyv : ρ y <;> rw [hyv] at hy <;> cases hy
  refine does_eq hop hb ?_ ?_ ?_
  · rw [hxv, hyv]; exact run_eqGuard_bool ..
  · intro op h; rw [hxv, hyv]; rcases h with rfl | rfl <;> rfl
  · rw [hxv, hyv]; exact run_equal_bool ht _ _

theorem isNil_const {x : Operand} (h : isNilConst x = true) : ∃ v, x = .const v ∧ (v = .pointer none ∨ (∃ n c, v = .slice none n c) ∨ v = .map none ∨ v = .nilFunc ∨ v = .nilIface) := by
  cases x <;> simp [isNilConst] at h
  rename_i v
  refine ⟨v, rfl, ?_⟩
  split at h <;> simp_all
def valNil : Value → Option Bool
  | .pointer a => some a.isNone
  | .slice a _ _ => some a.isNone
  | .map a => some a.isNone
  | .nilFunc => some true
  | .func .. => some false
  | .nilIface => some true
  | .iface .. => some false
  | _ => none
/-- A value of a kind, nil or not. -/
def kindNil (k : Nat) (u : Value) (b : Bool) : Prop :=
  match k with
  | 0 => ∃ p, u = .pointer p ∧ p.isNone = b
  | 1 => ∃ p n c, u = .slice p n c ∧ p.isNone = b
  | 2 => ∃ p, u = .map p ∧ p.isNone = b
  | 3 => u = .nilFunc ∧ b = true ∨ (∃ f p q, u = .func f p q) ∧ b = false
  | 4 => u = .nilIface ∧ b = true ∨ (∃ t p, u = .iface t p) ∧ b = false
  | _ => False
theorem VR.isNilK {k : Nat} {v : AV} {u : Value} {b : Bool} (h : VR μ v u) (hb : v.isNilK k = some b) : kindNil k u b := by
  unfold AV.isNilK at hb
  split at hb
  all_goals first | (cases hb; cases h; simp [kindNil]; done) | cases hb
theorem does_conv {s d : TypeId} {x : Operand} {k k' : IntKind} {n : Int} (hop : o.op = .convert s d x) (hs : (P.underlying s).isSome = true) (hd : P.underlying d = some (.int k)) (hx : VR μ (.int k' n) (ρ x)) :
    Does P w ρ o μ (.int k (k.wrap n)) := by
  cases hxv : ρ x <;> rw [hxv] at hx <;> cases hx
  obtain ⟨ds, hs⟩ := Option.isSome_iff_exists.1 hs
  refine ⟨_, ?_, .int _ _⟩
  simp [execOp, hop, hxv, convert, run_underlying hs, run_underlying hd, Conv.intToInt]
theorem does_un {u : UnOp} {t : TypeId} {x : Operand} {a v : AV} (hop : o.op = .unOp u t x) (hx : VR μ a (ρ x)) (hv : unV u a = some v) : Does P w ρ o μ v := by
  cases a <;> try (cases u <;> simp [unV] at hv; done)
  · cases hxv : ρ x <;> rw [hxv] at hx <;> cases hx
    cases u <;> simp only [unV] at hv <;> cases hv
    exact ⟨_, by simp [execOp, hop, hxv, Op.unary], .bool _⟩
  · cases hxv : ρ x <;> rw [hxv] at hx <;> cases hx
    cases u <;> simp only [unV] at hv <;> cases hv
    · exact ⟨_, by simp only [execOp, hop, hxv, Op.unary, Op.intArith, Sem.run_bind, Sem.run_pure, Result.andThen_ok], .int _ _⟩
    · exact ⟨_, by simp only [execOp, hop, hxv, Op.unary, Op.intBits, Sem.run_bind, Sem.run_pure, Result.andThen_ok], .int _ _⟩

/-! ### Nil -/
theorem run_equal_ptr {t e : TypeId} (ht : P.underlying t = some (.pointer e)) (p q : Option Addr) (h : (p.isNone || q.isNone) = true) : (Op.equal t (.pointer p) (.pointer q)).run P w = .ok (p.isNone && q.isNone) w := by
  have k : ∀ d, (Op.equalIn (d + 1) t (.pointer p) (.pointer q)).run P w = .ok (p.isNone && q.isNone) w := fun d => by
    cases p <;> cases q <;> simp at h <;> simp [Op.equalIn, run_underlying ht]
  exact k 9999
theorem run_equal_slice {t e : TypeId} (ht : P.underlying t = some (.slice e)) (p q : Option Addr) (n c n' c' : Nat) (h : (p.isNone || q.isNone) = true) : (Op.equal t (.slice p n c) (.slice q n' c')).run P w = .ok (p.isNone && q.isNone) w := by
  have k : ∀ d, (Op.equalIn (d + 1) t (.slice p n c) (.slice q n' c')).run P w = .ok (p.isNone && q.isNone) w := fun d => by
    cases p <;> cases q <;> simp at h <;> simp [Op.equalIn, run_underlying ht]
  exact k 9999
theorem run_equal_map {t e e' : TypeId} (ht : P.underlying t = some (.map e e')) (p q : Option Nat) (h : (p.isNone || q.isNone) = true) : (Op.equal t (.map p) (.map q)).run P w = .ok (p.isNone && q.isNone) w := by
  have k : ∀ d, (Op.equalIn (d + 1) t (.map p) (.map q)).run P w = .ok (p.isNone && q.isNone) w := fun d => by
    cases p <;> cases q <;> simp at h <;> simp [Op.equalIn, run_underlying ht]
  exact k 9999
theorem run_equal_fn {t : TypeId} {ps rs : Array TypeId} {v : Bool} (ht : P.underlying t = some (.func ps rs v)) {x y : Value} {a b : Bool}
    (hx : x = .nilFunc ∧ a = true ∨ (∃ f p q, x = .func f p q) ∧ a = false) (hy : y = .nilFunc ∧ b = true ∨ (∃ f p q, y = .func f p q) ∧ b = false) (h : (a || b) = true) :
    (Op.equal t x y).run P w = .ok (a && b) w := by
  have k : ∀ d, (Op.equalIn (d + 1) t x y).run P w = .ok (a && b) w := fun d => by
    rcases hx with ⟨rfl, rfl⟩ | ⟨⟨_, _, _, rfl⟩, rfl⟩ <;> rcases hy with ⟨rfl, rfl⟩ | ⟨⟨_, _, _, rfl⟩, rfl⟩ <;> simp at h <;> simp [Op.equalIn, run_underlying ht]
  exact k 9999
theorem run_equal_iface {t : TypeId} {ms : Array (String × TypeId)} (ht : P.underlying t = some (.interface ms)) {x y : Value} {a b : Bool}
    (hx : x = .nilIface ∧ a = true ∨ (∃ f p, x = .iface f p) ∧ a = false) (hy : y = .nilIface ∧ b = true ∨ (∃ f p, y = .iface f p) ∧ b = false) (h : (a || b) = true) :
    (Op.equal t x y).run P w = .ok (a && b) w := by
  have k : ∀ d, (Op.equalIn (d + 1) t x y).run P w = .ok (a && b) w := fun d => by
    rcases hx with ⟨rfl, rfl⟩ | ⟨⟨_, _, rfl⟩, rfl⟩ <;> rcases hy with ⟨rfl, rfl⟩ | ⟨⟨_, _, rfl⟩, rfl⟩ <;> simp at h <;> simp [Op.equalIn, run_underlying ht]
  exact k 9999
theorem run_eqGuard_nil (op : BinOp) (t : TypeId) (x y : Operand) (a b : Value) (hc : (∃ c, x = .const c) ∨ ∃ c, y = .const c) (ha : valNil a ≠ none) : (eqGuard op t x y a b).run P w = .ok () w := by
  cases a
  case agg => exact absurd rfl ha
  case nilIface =>
    cases b
    case nilIface => rcases hc with ⟨c, rfl⟩ | ⟨c, rfl⟩ <;> unfold eqGuard <;> split <;> simp
    all_goals (unfold eqGuard; split <;> simp)
  all_goals (unfold eqGuard; split <;> simp)
/-- 'x == nil' and its kin, of the five kinds. -/
theorem does_eqN {op : BinOp} {neg : Bool} {t yt : TypeId} {x y : Operand} {u v : AV} {a b : Bool} {k : Nat} (hop : o.op = .binOp op t x y yt) (hb : op = if neg then .neq else .eql)
    (hxy : (isNilConst x || isNilConst y) = true) (hx : VR μ u (ρ x)) (hy : VR μ v (ρ y)) (ha : u.isNilK k = some a) (hb' : v.isNilK k = some b) (hab : (a || b) = true)
    (ht : nilKind (P.underlying t) = some k) : Does P w ρ o μ (.bool ((a && b) != neg)) := by
  have na := hx.isNilK ha
  have nb := hy.isNilK hb'
  have hc : (∃ c, x = .const c) ∨ ∃ c, y = .const c := by
    rcases Bool.or_eq_true_iff.1 hxy with h | h
    · obtain ⟨c, e, _⟩ := isNil_const h; exact .inl ⟨c, e⟩
    · obtain ⟨c, e, _⟩ := isNil_const h; exact .inr ⟨c, e⟩
  cases hd : P.underlying t with
  | none => rw [hd] at ht; simp [nilKind] at ht
  | some d =>
    rw [hd] at ht
    cases d <;> simp [nilKind] at ht <;> subst ht <;> simp only [kindNil] at na nb
    · obtain ⟨p, hp, rfl⟩ := na
      obtain ⟨q, hq, rfl⟩ := nb
      refine does_eq hop hb (run_eqGuard_nil op t x y _ _ hc (by rw [hp]; simp [valNil])) ?_ (by rw [hp, hq]; exact run_equal_ptr hd p q hab)
      intro op h; rw [hp, hq]; rcases h with rfl | rfl <;> cases p <;> cases q <;> first | rfl | simp at hab
    · obtain ⟨p, n, c, hp, rfl⟩ := na
      obtain ⟨q, n', c', hq, rfl⟩ := nb
      refine does_eq hop hb (run_eqGuard_nil op t x y _ _ hc (by rw [hp]; simp [valNil])) ?_ (by rw [hp, hq]; exact run_equal_slice hd p q n c n' c' hab)
      intro op h; rw [hp, hq]; rcases h with rfl | rfl <;> rfl
    · obtain ⟨p, hp, rfl⟩ := na
      obtain ⟨q, hq, rfl⟩ := nb
      refine does_eq hop hb (run_eqGuard_nil op t x y _ _ hc (by rw [hp]; simp [valNil])) ?_ (by rw [hp, hq]; exact run_equal_map hd p q hab)
      intro op h; rw [hp, hq]; rcases h with rfl | rfl <;> rfl
    · refine does_eq hop hb (run_eqGuard_nil op t x y _ _ hc (by rcases na with ⟨e, _⟩ | ⟨⟨f, p, q, e⟩, _⟩ <;> rw [e] <;> simp [valNil])) ?_ (run_equal_fn hd na nb hab)
      intro op h
      rcases na with ⟨h1, _⟩ | ⟨⟨f, p, q, h1⟩, _⟩ <;> rcases nb with ⟨h2, _⟩ | ⟨⟨f', p', q', h2⟩, _⟩ <;> rw [h1, h2] <;> rcases h with rfl | rfl <;> rfl
    · refine does_eq hop hb (run_eqGuard_nil op t x y _ _ hc (by rcases na with ⟨e, _⟩ | ⟨⟨f, p, e⟩, _⟩ <;> rw [e] <;> simp [valNil])) ?_ (run_equal_iface hd na nb hab)
      intro op h
      rcases na with ⟨h1, _⟩ | ⟨⟨f, p, h1⟩, _⟩ <;> rcases nb with ⟨h2, _⟩ | ⟨⟨f', p', h2⟩, _⟩ <;> rw [h1, h2] <;> rcases h with rfl | rfl <;> rfl
end Go.Ai
/- The operations that write to no object do as the model's (part two). -/
namespace Go.Ai
set_option linter.unusedSectionVars false
variable [DrMode]
set_option linter.unusedVariables false
set_option linter.unusedSimpArgs false
variable {P : Program} {μ : Mu} {w : World} {ρ : Operand → Value} {o : Oper}

theorem addr_add (a : Addr) (n : Nat) (h : a.spot = none) : a.add n = ⟨a.block, a.off + n, none⟩ := by
  unfold Addr.add; split
  · rename_i h0; subst h0; cases a; simp at h; simp [h]
  · rfl
theorem does_fadd {s : TypeId} {x : Operand} {f b g p off : Nat} {fs : Array Field} {fd : Field} {i : TypeInfo} (hop : o.op = .fieldAddr s x f) (hs : P.underlying s = some (.struct fs)) (hf : fs[f]? = some fd)
    (hoff : fd.offset = off) (hi : P.info? fd.type = some i) (hz : i.size ≠ 0) (hx : VR μ (.ptr b g p) (ρ x)) : Does P w ρ o μ (.ptr b g (p + off)) := by
  cases hxv : ρ x <;> rw [hxv] at hx <;> cases hx
  rename_i a ha
  refine ⟨_, ?_, .ptr ha⟩
  have hsz : (sizeOf fd.type).run P w = .ok i.size w := by rw [run_sizeOf w hi]; simp [Program.cellsOf, hi]
  simp [execOp, hop, hxv, Instr.fieldAt, run_underlying hs, hf, Instr.sureAddr, fieldPlace, hsz, hz, addr_add, hoff, Nat.add_assoc]
theorem does_faddV {s : TypeId} {x : Operand} {f p off : Nat} {xs : List AV} {fs : Array Field} {fd : Field} {i : TypeInfo} (hop : o.op = .fieldAddr s x f) (hs : P.underlying s = some (.struct fs)) (hf : fs[f]? = some fd)
    (hoff : fd.offset = off) (hi : P.info? fd.type = some i) (hz : i.size ≠ 0) (hx : VR μ (.vp xs p) (ρ x)) : Does P w ρ o μ (.vp xs (p + off)) := by
  obtain ⟨kk, o2, ys, hxv, h1, h3, h4⟩ := hx.vp_inv
  refine ⟨_, ?_, .vp_mk (k := kk) (off := o2) h1 h3 h4⟩
  have hsz : (sizeOf fd.type).run P w = .ok i.size w := by rw [run_sizeOf w hi]; simp [Program.cellsOf, hi]
  simp [execOp, hop, hxv, Instr.fieldAt, run_underlying hs, hf, Instr.sureAddr, fieldPlace, hsz, hz, addr_add, hoff, Nat.add_assoc]
theorem aggOf {xs : List AV} {u : Value} (h : VR μ (.agg xs) u) : ∃ ys : List Value, u = .agg ys.toArray ∧ VRs μ xs ys := by
  cases h with | agg h1 h2 => exact ⟨_, rfl, h1, h2⟩
theorem tupOf {xs : List AV} {u : Value} (h : VR μ (.tup xs) u) : ∃ ys : List Value, u = .tuple ys.toArray ∧ VRs μ xs ys := by
  cases h with | tup h1 h2 => exact ⟨_, rfl, h1, h2⟩
theorem run_isAgg_yes {t : TypeId} (h : ∃ d, P.underlying t = some d ∧ ((∃ fs, d = .struct fs) ∨ ∃ n e, d = .array n e)) : (isAgg t).run P w = .ok true w := by
  obtain ⟨d, hd, h | h⟩ := h
  · obtain ⟨fs, rfl⟩ := h; simp [isAgg, run_underlying hd]
  · obtain ⟨n, e, rfl⟩ := h; simp [isAgg, run_underlying hd]
theorem run_isAgg_no {t : TypeId} {d : TypeDesc} (hd : P.underlying t = some d) (h : ∀ fs, d ≠ .struct fs) (h' : ∀ n e, d ≠ .array n e) : (isAgg t).run P w = .ok false w := by
  cases d <;> first | (exact absurd rfl (h _)) | (exact absurd rfl (h' _ _)) | simp [isAgg, run_underlying hd]
theorem run_part_one {t : TypeId} {cs : Array Value} {off : Nat} {v : Value} (hA : (isAgg t).run P w = .ok false w) (hv : cs[off]? = some v) : (part t cs off).run P w = .ok v w := by
  simp [part, hA, hv]
theorem run_part_agg {t : TypeId} {cs : Array Value} {off : Nat} {i : TypeInfo} (hA : (isAgg t).run P w = .ok true w) (hi : P.info? t = some i) : (part t cs off).run P w = .ok (.agg (cs.extract off (off + i.size))) w := by
  have hsz : (sizeOf t).run P w = .ok i.size w := by rw [run_sizeOf w hi]; simp [Program.cellsOf, hi]
  simp [part, hA, hsz]
theorem does_fld1 {s : TypeId} {x : Operand} {f off : Nat} {fs : Array Field} {fd : Field} {xs : List AV} {v : AV} (hop : o.op = .field s x f) (hs : P.underlying s = some (.struct fs)) (hf : fs[f]? = some fd)
    (hoff : fd.offset = off) (hA : (isAgg fd.type).run P w = .ok false w) (hx : VR μ (.agg xs) (ρ x)) (hv : xs[off]? = some v) : Does P w ρ o μ v := by
  obtain ⟨ys, hy, hr⟩ := aggOf hx
  obtain ⟨y, hy1, hy2⟩ := hr.get hv
  exact ⟨y, by simp [execOp, hop, hy, Instr.field, run_underlying hs, hf, asAgg, hoff, run_part_one hA (show (ys.toArray)[off]? = some y by simpa using hy1)], hy2⟩
theorem extract_list (ys : List Value) (a n : Nat) : ys.toArray.extract a (a + n) = ((ys.drop a).take n).toArray := by
  rw [List.extract_toArray, List.extract_eq_take_drop]; congr 2; omega
theorem does_fldN {s : TypeId} {x : Operand} {f off n : Nat} {fs : Array Field} {fd : Field} {i : TypeInfo} {xs : List AV} (hop : o.op = .field s x f) (hs : P.underlying s = some (.struct fs)) (hf : fs[f]? = some fd)
    (hoff : fd.offset = off) (hi : P.info? fd.type = some i) (hn : i.size = n) (hA : (isAgg fd.type).run P w = .ok true w) (hx : VR μ (.agg xs) (ρ x)) :
    Does P w ρ o μ (.agg ((xs.drop off).take n)) := by
  obtain ⟨ys, hy, hr⟩ := aggOf hx
  refine ⟨.agg ((ys.drop off).take n).toArray, ?_, .agg' (by simpa using (hr.drop off).take n)⟩
  simp only [execOp, hop, hy, Instr.field, run_underlying hs, Sem.run_bind, Result.andThen_ok, hf, asAgg, Sem.run_pure, hoff, run_part_agg hA hi, hn, extract_list]
theorem does_idx {t e : TypeId} {x ix : Operand} {i : TypeInfo} {b g p n sz sz' cl : Nat} {ex : Bool} {k : IntKind} {j : Int} (hop : o.op = .indexAddr t x ix) (ht : P.underlying t = some (.slice e)) (hi : P.info? e = some i) (hsz : i.size = sz)
    (hx : VR μ (.sl b g p n sz' cl ex) (ρ x)) (hj : VR μ (.int k j) (ρ ix)) (h0 : 0 ≤ j) (h1 : j < (n : Int)) : Does P w ρ o μ (.ptr b g (p + j.toNat * sz)) := by
  cases hxv : ρ x <;> rw [hxv] at hx <;> cases hx
  rename_i hn hc he h
  cases hjv : ρ ix <;> rw [hjv] at hj <;> cases hj
  obtain ⟨a, ha, rfl, _⟩ := h (by omega)
  have hs : (sizeOf e).run P w = .ok sz w := by rw [run_sizeOf w hi]; simp [Program.cellsOf, hi, hsz]
  refine ⟨_, ?_, .ptr ha⟩
  simp [execOp, hop, hxv, hjv, Instr.indexAt, asIntOf, run_underlying ht, h0, h1, hs, addr_add, Nat.add_assoc]
theorem does_idxA {t e : TypeId} {x ix : Operand} {i : TypeInfo} {b g p len sz : Nat} {k : IntKind} {j : Int} (hop : o.op = .indexAddr t x ix) (ht : P.underlying t = some (.array len e)) (hi : P.info? e = some i) (hsz : i.size = sz)
    (hx : VR μ (.ptr b g p) (ρ x)) (hj : VR μ (.int k j) (ρ ix)) (h0 : 0 ≤ j) (h1 : j < (len : Int)) : Does P w ρ o μ (.ptr b g (p + j.toNat * sz)) := by
  cases hxv : ρ x <;> rw [hxv] at hx <;> cases hx
  rename_i a ha
  cases hjv : ρ ix <;> rw [hjv] at hj <;> cases hj
  have hs : (sizeOf e).run P w = .ok sz w := by rw [run_sizeOf w hi]; simp [Program.cellsOf, hi, hsz]
  refine ⟨_, ?_, .ptr ha⟩
  simp [execOp, hop, hxv, hjv, Instr.indexAt, Instr.sureAddr, asIntOf, run_underlying ht, h0, h1, hs, addr_add, Nat.add_assoc]
theorem does_idxV {t e : TypeId} {x ix : Operand} {i : TypeInfo} {n sz : Nat} {xs : List AV} {k : IntKind} {j : Int} (hop : o.op = .indexAddr t x ix) (ht : P.underlying t = some (.slice e)) (hi : P.info? e = some i) (hsz : i.size = sz) (hz : 0 < sz)
    (hx : VR μ (.vs n sz xs) (ρ x)) (hj : VR μ (.int k j) (ρ ix)) (h0 : 0 ≤ j) (h1 : j < (n : Int)) : Does P w ρ o μ (.vp xs (j.toNat * sz)) := by
  obtain ⟨kk, o2, p, c, ys, hxv, hn, hl, hp, h1', h3, h4⟩ := hx.vs_inv
  cases hjv : ρ ix <;> rw [hjv] at hj <;> cases hj
  have hp' := hp (by rw [hl]; exact Nat.mul_pos (by omega) hz)
  subst hp'
  have hs : (sizeOf e).run P w = .ok sz w := by rw [run_sizeOf w hi]; simp [Program.cellsOf, hi, hsz]
  refine ⟨_, ?_, .vp_mk (k := kk) (off := o2) h1' h3 h4⟩
  simp [execOp, hop, hxv, hjv, Instr.indexAt, asIntOf, run_underlying ht, h0, h1, hs, addr_add, Nat.add_assoc]
theorem does_idxAV {t e : TypeId} {x ix : Operand} {i : TypeInfo} {p len sz : Nat} {xs : List AV} {k : IntKind} {j : Int} (hop : o.op = .indexAddr t x ix) (ht : P.underlying t = some (.array len e)) (hi : P.info? e = some i) (hsz : i.size = sz)
    (hx : VR μ (.vp xs p) (ρ x)) (hj : VR μ (.int k j) (ρ ix)) (h0 : 0 ≤ j) (h1 : j < (len : Int)) : Does P w ρ o μ (.vp xs (p + j.toNat * sz)) := by
  obtain ⟨kk, o2, ys, hxv, g1, g3, g4⟩ := hx.vp_inv
  cases hjv : ρ ix <;> rw [hjv] at hj <;> cases hj
  have hs : (sizeOf e).run P w = .ok sz w := by rw [run_sizeOf w hi]; simp [Program.cellsOf, hi, hsz]
  refine ⟨_, ?_, .vp_mk (k := kk) (off := o2) g1 g3 g4⟩
  simp [execOp, hop, hxv, hjv, Instr.indexAt, Instr.sureAddr, asIntOf, run_underlying ht, h0, h1, hs, addr_add, Nat.add_assoc]
theorem does_idxS {t : TypeId} {x ix : Operand} {s : ByteArray} {k : IntKind} {j : Int} {c : UInt8} (hop : o.op = .index t x ix) (ht : P.underlying t = some .string)
    (hx : VR μ (.str s) (ρ x)) (hj : VR μ (.int k j) (ρ ix)) (h0 : 0 ≤ j) (h1 : s[j.toNat]? = some c) : Does P w ρ o μ (.int .u8 c.toNat) := by
  cases hxv : ρ x <;> rw [hxv] at hx <;> cases hx
  cases hjv : ρ ix <;> rw [hjv] at hj <;> cases hj
  refine ⟨_, ?_, .int _ _⟩
  simp [execOp, hop, hxv, hjv, Instr.index, asIntOf, run_underlying ht, h0, h1]
theorem does_idxV1 {t e : TypeId} {x ix : Operand} {i : TypeInfo} {xs : List AV} {v : AV} {len : Nat} {k : IntKind} {j : Int} (hop : o.op = .index t x ix) (ht : P.underlying t = some (.array len e)) (hi : P.info? e = some i) (hsz : i.size = 1)
    (hA : (isAgg e).run P w = .ok false w) (hx : VR μ (.agg xs) (ρ x)) (hj : VR μ (.int k j) (ρ ix)) (h0 : 0 ≤ j) (h1 : j < (len : Int)) (hv : xs[j.toNat]? = some v) : Does P w ρ o μ v := by
  obtain ⟨ys, hy, hr⟩ := aggOf hx
  obtain ⟨y, hy1, hy2⟩ := hr.get hv
  cases hjv : ρ ix <;> rw [hjv] at hj <;> cases hj
  have hs : (sizeOf e).run P w = .ok 1 w := by rw [run_sizeOf w hi]; simp [Program.cellsOf, hi, hsz]
  refine ⟨y, ?_, hy2⟩
  simp [execOp, hop, hy, hjv, Instr.index, asIntOf, run_underlying ht, h0, h1, hs, run_part_one hA (show (ys.toArray)[j.toNat]? = some y by simpa using hy1)]
theorem does_idxVN {t e : TypeId} {x ix : Operand} {i : TypeInfo} {xs : List AV} {len sz : Nat} {k : IntKind} {j : Int} (hop : o.op = .index t x ix) (ht : P.underlying t = some (.array len e)) (hi : P.info? e = some i) (hsz : i.size = sz)
    (hA : (isAgg e).run P w = .ok true w) (hx : VR μ (.agg xs) (ρ x)) (hj : VR μ (.int k j) (ρ ix)) (h0 : 0 ≤ j) (h1 : j < (len : Int)) : Does P w ρ o μ (.agg ((xs.drop (j.toNat * sz)).take sz)) := by
  obtain ⟨ys, hy, hr⟩ := aggOf hx
  cases hjv : ρ ix <;> rw [hjv] at hj <;> cases hj
  have hs : (sizeOf e).run P w = .ok sz w := by rw [run_sizeOf w hi]; simp [Program.cellsOf, hi, hsz]
  refine ⟨.agg ((ys.drop (j.toNat * sz)).take sz).toArray, ?_, .agg' (by simpa using (hr.drop _).take _)⟩
  simp only [execOp, hop, hy, hjv, Instr.index, asIntOf, run_underlying ht, Sem.run_bind, Sem.run_pure, Result.andThen_ok, h0, h1, and_self, if_true, hs, run_part_agg hA hi, hsz, extract_list]
theorem does_ext {x : Operand} {i : Nat} {xs : List AV} {v : AV} (hop : o.op = .extract x i) (hx : VR μ (.tup xs) (ρ x)) (hv : xs[i]? = some v) : Does P w ρ o μ v := by
  obtain ⟨ys, hy, hr⟩ := tupOf hx
  obtain ⟨y, hy1, hy2⟩ := hr.get hv
  exact ⟨y, by simp [execOp, hop, hy, Instr.extract, hy1], hy2⟩
theorem run_builtin {c : Call} {bi : Builtin} (hop : o.op = .call c) (hc : c.callee = .builtin bi) :
    ∃ consts, (execOp ρ o).run P w = (builtin bi c.argTypes o.type consts (c.args.map ρ)).run P w :=
  by refine ⟨?cs, ?h⟩; case h => simp only [execOp, hop, resolve, hc, Sem.run_bind, Sem.run_pure, Result.andThen_ok, invoke]; rfl
theorem does_lenS {c : Call} {t e : TypeId} {v : AV} {n : Nat} (hop : o.op = .call c) (hc : c.callee = .builtin .len) (hat : c.argTypes[0]? = some t) (ht : P.underlying t = some (.slice e)) {x : Operand} (ha : c.args.toList = [x])
    (hv : (∃ b g p sz cl ex, v = .sl b g p n sz cl ex) ∨ v = .nils ∧ n = 0 ∨ ∃ sz xs, v = .vs n sz xs) (hx : VR μ v (ρ x)) : Does P w ρ o μ (.int .i64 n) := by
  refine ⟨.int .i64 n, ?_, .int _ _⟩
  obtain ⟨cs, hcs⟩ := run_builtin (P := P) (w := w) (ρ := ρ) hop hc
  rw [hcs]
  have ha' : c.args = #[x] := by cases h : c.args; rw [h] at ha; simp_all
  have hat' := hat
  rcases hv with ⟨b, g, p, sz, cl, ex, rfl⟩ | ⟨rfl, rfl⟩ | ⟨sz, xs, rfl⟩
  · cases hxv : ρ x <;> rw [hxv] at hx <;> cases hx
    simp [builtin, Builtin.len_, hat, ha', hxv, run_underlying ht, goInt]
  · cases hxv : ρ x <;> rw [hxv] at hx <;> cases hx
    simp [builtin, Builtin.len_, hat, ha', hxv, run_underlying ht, goInt]
  · cases hxv : ρ x <;> rw [hxv] at hx <;> cases hx
    simp [builtin, Builtin.len_, hat, ha', hxv, run_underlying ht, goInt]
theorem does_lenT {c : Call} {t : TypeId} {s : ByteArray} (hop : o.op = .call c) (hc : c.callee = .builtin .len) (hat : c.argTypes[0]? = some t) (ht : P.underlying t = some .string) {x : Operand} (ha : c.args.toList = [x])
    (hx : VR μ (.str s) (ρ x)) : Does P w ρ o μ (.int .i64 s.size) := by
  refine ⟨.int .i64 s.size, ?_, .int _ _⟩
  obtain ⟨cs, hcs⟩ := run_builtin (P := P) (w := w) (ρ := ρ) hop hc
  rw [hcs]
  have ha' : c.args = #[x] := by cases h : c.args; rw [h] at ha; simp_all
  cases hxv : ρ x <;> rw [hxv] at hx <;> cases hx
  simp [builtin, Builtin.len_, hat, ha', hxv, run_underlying ht, goInt]
theorem does_lenA {c : Call} {t e : TypeId} {n : Nat} (hop : o.op = .call c) (hc : c.callee = .builtin .len) (hat : c.argTypes[0]? = some t) (ht : P.underlying t = some (.array n e)) {x : Operand} (ha : c.args.toList = [x]) :
    Does P w ρ o μ (.int .i64 n) := by
  refine ⟨.int .i64 n, ?_, .int _ _⟩
  obtain ⟨cs, hcs⟩ := run_builtin (P := P) (w := w) (ρ := ρ) hop hc
  rw [hcs]
  have ha' : c.args = #[x] := by cases h : c.args; rw [h] at ha; simp_all
  simp [builtin, Builtin.len_, hat, ha', run_underlying ht, goInt]
theorem run_foldMin : ∀ {x : AV} {xs : List AV} {v : AV} {y : Value} {ys : List Value}, VR μ x y → VRs μ xs ys → foldV minV x xs = some v → ∃ u, (ys.foldlM Builtin.min2 y).run P w = .ok u w ∧ VR μ v u := by
  intro x xs
  induction xs generalizing x with
  | nil => intro v y ys h hs hv; rw [hs.cases_nil]; simp [foldV] at hv; subst hv; exact ⟨y, by simp, h⟩
  | cons a xs ih =>
    intro v y ys h hs hv
    obtain ⟨b, t, rfl, hb, ht⟩ := hs.cases_cons
    simp only [foldV] at hv
    cases x <;> cases a <;> simp only [minV] at hv <;> try (cases hv; done)
    rename_i k n k' m
    cases h; cases hb
    split at hv
    · rename_i z hz
      split at hz
      · rename_i hk; subst hk; cases hz
        obtain ⟨u, hu, hr⟩ := ih (x := .int k (if m < n then m else n)) (y := .int k (if m < n then m else n)) (.int _ _) ht hv
        exact ⟨u, by simpa [Builtin.min2] using hu, hr⟩
      · cases hz
    · cases hv
theorem run_foldMax : ∀ {x : AV} {xs : List AV} {v : AV} {y : Value} {ys : List Value}, VR μ x y → VRs μ xs ys → foldV maxV x xs = some v → ∃ u, (ys.foldlM Builtin.max2 y).run P w = .ok u w ∧ VR μ v u := by
  intro x xs
  induction xs generalizing x with
  | nil => intro v y ys h hs hv; rw [hs.cases_nil]; simp [foldV] at hv; subst hv; exact ⟨y, by simp, h⟩
  | cons a xs ih =>
    intro v y ys h hs hv
    obtain ⟨b, t, rfl, hb, ht⟩ := hs.cases_cons
    simp only [foldV] at hv
    cases x <;> cases a <;> simp only [maxV] at hv <;> try (cases hv; done)
    rename_i k n k' m
    cases h; cases hb
    split at hv
    · rename_i z hz
      split at hz
      · rename_i hk; subst hk; cases hz
        obtain ⟨u, hu, hr⟩ := ih (x := .int k (if m > n then m else n)) (y := .int k (if m > n then m else n)) (.int _ _) ht hv
        exact ⟨u, by simpa [Builtin.max2] using hu, hr⟩
      · cases hz
    · cases hv
theorem does_min {c : Call} {x : AV} {xs : List AV} {v : AV} (hop : o.op = .call c) (hc : c.callee = .builtin .min) (hx : VRs μ (x :: xs) (c.args.toList.map ρ)) (hv : foldV minV x xs = some v) : Does P w ρ o μ v := by
  obtain ⟨y, t, e, h, ht⟩ := hx.cases_cons
  obtain ⟨u, hu, hr⟩ := run_foldMin (P := P) (w := w) h ht hv
  refine ⟨u, ?_, hr⟩
  obtain ⟨cs, hcs⟩ := run_builtin (P := P) (w := w) (ρ := ρ) hop hc
  rw [hcs]
  simp [builtin, Builtin.min_, e, hu]
theorem does_max {c : Call} {x : AV} {xs : List AV} {v : AV} (hop : o.op = .call c) (hc : c.callee = .builtin .max) (hx : VRs μ (x :: xs) (c.args.toList.map ρ)) (hv : foldV maxV x xs = some v) : Does P w ρ o μ v := by
  obtain ⟨y, t, e, h, ht⟩ := hx.cases_cons
  obtain ⟨u, hu, hr⟩ := run_foldMax (P := P) (w := w) h ht hv
  refine ⟨u, ?_, hr⟩
  obtain ⟨cs, hcs⟩ := run_builtin (P := P) (w := w) (ρ := ρ) hop hc
  rw [hcs]
  simp [builtin, Builtin.max_, e, hu]
theorem does_mkfn {fn : Fn} {first cap : Array Operand} {xs : List AV} (hop : o.op = .makeFunc fn first cap) (hx : VRs μ xs ((first.toList ++ cap.toList).map ρ)) :
    Does P w ρ o μ (.fn fn (xs.take first.size) (xs.drop first.size)) := by
  refine ⟨.func fn (first.map ρ) (cap.map ρ), by simp [execOp, hop, Instr.makeFunc], ?_⟩
  have h1 := hx.take first.size
  have h2 := hx.drop first.size
  have k1 : ((first.toList ++ cap.toList).map ρ).take first.size = first.toList.map ρ := by
    rw [List.map_append]
    have hl : (first.toList.map ρ).length = first.size := by simp
    exact List.take_left' hl
  have k2 : ((first.toList ++ cap.toList).map ρ).drop first.size = cap.toList.map ρ := by
    rw [List.map_append]
    have hl : (first.toList.map ρ).length = first.size := by simp
    exact List.drop_left' hl
  rw [k1] at h1
  rw [k2] at h2
  have e1 : first.map ρ = (first.toList.map ρ).toArray := by apply Array.ext'; simp only [Array.toList_map]
  have e2 : cap.map ρ = (cap.toList.map ρ).toArray := by apply Array.ext'; simp only [Array.toList_map]
  rw [e1, e2]
  exact .fn h1.1 h1.2 h2.1 h2.2
theorem does_mki {t : TypeId} {x : Operand} {v : AV} {d : TypeDesc} (hop : o.op = .makeInterface t x) (ht : P.underlying t = some d) (hd : ∀ ms, d ≠ .interface ms) (hx : VR μ v (ρ x)) : Does P w ρ o μ (.iface t v) := by
  refine ⟨.iface t (ρ x), ?_, .iface hx⟩
  cases d <;> first | exact absurd rfl (hd _) | simp [execOp, hop, Instr.makeInterface, run_underlying ht]
theorem does_tas {xt t : TypeId} {x : Operand} {fs : Array Field} {zv : Value} {z : List AV} {a v : AV} (hop : o.op = .typeAssert x xt t true) (ht : P.underlying t = some (.struct fs)) (hz : (zeroValue t).run P w = .ok zv w) (hzr : VR μ (.agg z) zv) (hx : VR μ a (ρ x))
    (hs : (match [a] with
    | [.iface t' v] => some (NRes.val (if t' = t then .tup [v, .bool true] else .tup [.agg z, .bool false]))
    | [.nili] => some (.val (.tup [.agg z, .bool false]))
    | _ => none) = some (.val v)) : Does P w ρ o μ v := by
  have hno : ∀ u : Value, VR μ (.tup [.agg z, .bool false]) (.tuple #[zv, .bool false]) := fun _ => VR.tup' (VRs.cons hzr (VRs.cons (.bool _) (VRs.nil μ)))
  split at hs
  · rename_i t' u he
    cases he
    cases hxv : ρ x <;> rw [hxv] at hx <;> cases hx
    rename_i u' hu
    by_cases e : t' = t
    · rw [if_pos e] at hs
      cases hs
      exact ⟨.tuple #[u', .bool true], by simp [execOp, hop, Instr.typeAssert, run_underlying ht, hxv, e], VR.tup' (VRs.cons hu (VRs.cons (.bool _) (VRs.nil μ)))⟩
    · rw [if_neg e] at hs
      cases hs
      exact ⟨_, by simp [execOp, hop, Instr.typeAssert, run_underlying ht, hxv, e, hz], hno zv⟩
  · rename_i he
    cases he
    cases hs
    cases hxv : ρ x <;> rw [hxv] at hx <;> cases hx
    exact ⟨_, by simp [execOp, hop, Instr.typeAssert, run_underlying ht, hxv, hz], hno zv⟩
  · cases hs
theorem does_tasf {xt t : TypeId} {x : Operand} {fs : Array Field} {a v : AV} (hop : o.op = .typeAssert x xt t false) (ht : P.underlying t = some (.struct fs)) (hx : VR μ a (ρ x))
    (hs : (match [a] with
    | [.iface t' v] => if t' = t then some (NRes.val v) else none
    | _ => none) = some (.val v)) : Does P w ρ o μ v := by
  split at hs
  · rename_i t' u he
    cases he
    cases hxv : ρ x <;> rw [hxv] at hx <;> cases hx
    rename_i u' hu
    by_cases e : t' = t
    · rw [if_pos e] at hs
      cases hs
      exact ⟨u', by simp [execOp, hop, Instr.typeAssert, run_underlying ht, hxv, e], hu⟩
    · rw [if_neg e] at hs
      cases hs
  · cases hs
theorem does_nilc {x : Operand} {v : AV} (hop : o.op = .nilCheck x) (hv : (∃ b g p, v = .ptr b g p) ∨ (∃ t u, v = .iface t u) ∨ (∃ f a c, v = .fn (.func f) a c) ∨ ∃ xs p, v = .vp xs p) (hx : VR μ v (ρ x)) : Does P w ρ o μ v := by
  refine ⟨ρ x, ?_, hx⟩
  rcases hv with ⟨b, g, p, rfl⟩ | ⟨t, u, rfl⟩ | ⟨f, a, c, rfl⟩ | ⟨xs, p, rfl⟩ <;> cases hxv : ρ x <;> rw [hxv] at hx <;> cases hx <;> simp [execOp, hop, hxv]
end Go.Ai
/- Edges in order: plain lists. -/
namespace Go.Ai
set_option linter.unusedVariables false
set_option linter.unusedSimpArgs false

abbrev Ed := Int × Int
def cmpI (x y : Int) : Int := if x < y then -1 else if x > y then 1 else 0
def cmpE (x y : Ed) : Int := if cmpI x.1 y.1 = 0 then cmpI x.2 y.2 else cmpI x.1 y.1
def cellsE : List Ed → List AV
  | [] => []
  | x :: l => .int .i64 x.1 :: .int .i64 x.2 :: cellsE l
def decE : Nat → List AV → Option (List Ed)
  | 0, [] => some []
  | n + 1, .int .i64 x :: .int .i64 y :: r => (decE n r).map ((x, y) :: ·)
  | _, _ => none
theorem decE_spec : ∀ (n : Nat) (c : List AV) (es : List Ed), decE n c = some es → es.length = n ∧ c = cellsE es
  | 0, c, es, h => by
    cases c with
    | nil => simp [decE] at h; subst h; exact ⟨rfl, rfl⟩
    | cons _ _ => simp [decE] at h
  | n + 1, c, es, h => by
    match c, h with
    | .int .i64 x :: .int .i64 y :: r, h =>
      simp only [decE] at h
      cases hr : decE n r with
      | none => rw [hr] at h; cases h
      | some l =>
        rw [hr] at h
        simp at h
        subst h
        obtain ⟨h1, h2⟩ := decE_spec n r l hr
        exact ⟨by simp [h1], by rw [h2]; rfl⟩
theorem decE_cells : ∀ (es : List Ed), decE es.length (cellsE es) = some es
  | [] => rfl
  | x :: l => by simp [decE, cellsE, decE_cells l]
theorem cellsE_length : ∀ (es : List Ed), (cellsE es).length = es.length * 2
  | [] => rfl
  | x :: l => by simp [cellsE, cellsE_length l]; omega
/-- Edges in order: by their first end, then by their second. -/
def edgeLe (x y : Ed) : Bool := decide (x.1 < y.1 ∨ x.1 = y.1 ∧ x.2 ≤ y.2)
def insE (x : Ed) : List Ed → List Ed
  | [] => [x]
  | y :: l => if edgeLe x y then x :: y :: l else y :: insE x l
def isortE : List Ed → List Ed
  | [] => []
  | x :: l => insE x (isortE l)
theorem insE_perm (x : Ed) : ∀ l, (insE x l).Perm (x :: l)
  | [] => List.Perm.refl _
  | y :: l => by
    unfold insE
    split
    · exact List.Perm.refl _
    · exact ((insE_perm x l).cons y).trans (List.Perm.swap x y l)
theorem isortE_perm : ∀ l, (isortE l).Perm l
  | [] => List.Perm.refl _
  | x :: l => (insE_perm x _).trans ((isortE_perm l).cons x)
theorem edgeLe_trans (x y z : Ed) (h : edgeLe x y = true) (h2 : edgeLe y z = true) : edgeLe x z = true := by
  unfold edgeLe at *
  simp at *
  omega
theorem edgeLe_total (x y : Ed) : (edgeLe x y || edgeLe y x) = true := by
  unfold edgeLe
  simp
  omega
theorem edgeLe_anti (x y : Ed) (h : edgeLe x y = true) (h2 : edgeLe y x = true) : x = y := by
  cases x
  cases y
  unfold edgeLe at *
  simp at *
  omega
theorem insE_sorted (x : Ed) : ∀ l : List Ed, l.Pairwise (fun a b => edgeLe a b = true) → (insE x l).Pairwise (fun a b => edgeLe a b = true)
  | [], _ => by simp [insE]
  | y :: l, h => by
    unfold insE
    split
    · rename_i hx
      refine List.Pairwise.cons (fun z hz => ?_) h
      rcases List.mem_cons.1 hz with rfl | hz
      · exact hx
      · exact edgeLe_trans _ _ _ hx (List.rel_of_pairwise_cons h hz)
    · rename_i hx
      refine List.Pairwise.cons (fun z hz => ?_) (insE_sorted x l (List.Pairwise.of_cons h))
      rcases List.mem_cons.1 ((insE_perm x l).mem_iff.1 hz) with rfl | hz
      · have := edgeLe_total z y
        simp_all
      · exact List.rel_of_pairwise_cons h hz
theorem isortE_sorted : ∀ l : List Ed, (isortE l).Pairwise (fun a b => edgeLe a b = true)
  | [] => List.Pairwise.nil
  | x :: l => insE_sorted x _ (isortE_sorted l)
theorem sorted_eq : ∀ l m : List Ed, l.Pairwise (fun a b => edgeLe a b = true) → m.Pairwise (fun a b => edgeLe a b = true) → l.Perm m → l = m
  | [], m, _, _, hp => (hp.symm.eq_nil).symm
  | x :: l, [], _, _, hp => by have := hp.length_eq; simp at this
  | x :: l, y :: m, hl, hm, hp => by
    have e : x = y := by
      have h1 : x ∈ y :: m := hp.mem_iff.1 (List.mem_cons_self ..)
      have h2 : y ∈ x :: l := hp.mem_iff.2 (List.mem_cons_self ..)
      rcases List.mem_cons.1 h1 with h1 | h1
      · exact h1
      · rcases List.mem_cons.1 h2 with h2 | h2
        · exact h2.symm
        · exact edgeLe_anti _ _ (List.rel_of_pairwise_cons hl h2) (List.rel_of_pairwise_cons hm h1)
    subst e
    rw [sorted_eq l m (List.Pairwise.of_cons hl) (List.Pairwise.of_cons hm) (List.Perm.cons_inv hp)]
theorem merge_isort (l : List Ed) : l.mergeSort edgeLe = isortE l :=
  sorted_eq _ _ (List.pairwise_mergeSort (fun a b c => edgeLe_trans a b c) edgeLe_total l) (isortE_sorted l) ((List.mergeSort_perm l edgeLe).trans (isortE_perm l).symm)
/-- The neighbours of a vertex, as the edges stand, up to the first edge that begins behind it. -/
def nbs (v : Int) : List Ed → List Int
  | [] => []
  | x :: l => if x.1 > v then [] else (if x.2 = v then [x.1] else []) ++ (if x.1 = v then [x.2] else []) ++ nbs v l
def encE (x : Ed) : List Value := [.int .i64 x.1, .int .i64 x.2]
end Go.Ai
