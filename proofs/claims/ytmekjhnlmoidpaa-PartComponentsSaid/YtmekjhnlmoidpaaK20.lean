/- A part of what the law leans on: the abstract machine, the contracts, the rows. -/
import Derived.Test.YtmekjhnlmoidpaaK8
import Derived.Test.YtmekjhnlmoidpaaK19
import Derived.Test.YtmekjhnlmoidpaaK14
import Derived.Test.YtmekjhnlmoidpaaK0
import Derived.Test.YtmekjhnlmoidpaaK17
namespace Go.Proofs.Ytmekjhnlmoidpaa.M
open Go.Ai Go.Ai.G Go.RowKit Go.Proofs.Ytmekjhnlmoidpaa.N
set_option maxRecDepth 100000
set_option linter.unusedVariables false
def A0 : AProg := ⟨fns, fun _ => none⟩
theorem cmp0 : ∀ x y : Ed, PVal A0 (φs 31) [gE x, gE y] (.int .i64 (cmpE x y)) := w_compare ⟨rfl, rfl⟩ ⟨rfl, rfl⟩ ⟨rfl, rfl⟩ ⟨rfl, rfl⟩
theorem right0 (n : Int) (v : AV) (es : List Ed) (hv : IsE v es) : PVal A0 (φs 4) [gV n v] (.bool (rightE n es)) := w_Right ⟨rfl, rfl⟩ cmp0 n v es hv
theorem none0 : ExtSound Try.prog A0.ext := fun f g h => by cases h
theorem edgeVR (μ : Mu) (x : Ed) : VR μ (gE x) (.agg (encE x).toArray) := VR.agg' (VRs.cons (.int _ _) (VRs.cons (.int _ _) (VRs.nil μ)))
theorem orders : Orders Try.prog 47 := by
  intro x y W
  letI dm : DrMode := ⟨true⟩
  obtain ⟨k, v, H1, h1, h2⟩ := w_Normal1 (A := A0) (φ := φs) ⟨rfl, rfl⟩ cmp0 x y
  have hs := prog_sound (P := Try.prog) (A := A0) (fun f g h => by cases h) chkAll k _ _ _ _ h1
  refine (hs.2.2 W.heap.size (muOf W) W [.agg (encE x).toArray, .agg (encE y).toArray] (HR.start W) (VRs.cons (edgeVR _ x) (VRs.cons (edgeVR _ y) (VRs.nil _)))).mono ?_
  rintro e w' ⟨u, ν, rfl, hu, hH, hx⟩
  obtain ⟨ρ, H2, _, _, hv, _⟩ := viewR_sound hH hu h2
  cases hv
  exact ⟨rfl, grown_of hx.size (fun k hk => hx.frame k hk fun b o a hb => by simp at hb) hx.os hx.tape hx.output (hx.drawn rfl)⟩
theorem sortOk : ∀ args H out, sortExt 47 args H = some out → Enters Try.prog 46 ∧ H.length ≤ out.heap.length ∧ ∀ B μ w us, HR B μ H w → VRs μ args us → Calls Try.prog 46 us.toArray w (OutR B μ H w out) :=
  sort_ext Try.sortEdges Try.isAgg46 Try.sizeOf46 orders (Go.Ai.enters_of Try.func47 (by kernel_rfl) (by kernel_rfl)) (Go.Ai.enters_of Try.func46 (by kernel_rfl) (by kernel_rfl))
/-- What graph.Right answers, wherever it is asked. -/
theorem rightC {W : World} {n : Int} {v : AV} {es : List Ed} {u : Value} (hv : IsE v es) (hu : VR (muOf W) v u) :
    Calls Try.prog 34 #[.agg #[.int .i64 n, u]] W fun e w' => e = .returned (.bool (rightE n es)) ∧ Below W.heap.size W w' := by
  refine (PVal.calls none0 chkAll (right0 n v es hv) (us := [.agg #[.int .i64 n, u]]) (VRs.cons (VR.agg' (ys := #[.int .i64 n, u]) (VRs.cons (.int _ _) (VRs.cons hu (VRs.nil _)))) (VRs.nil _))).mono ?_
  rintro e w' ⟨⟨u', ν, rfl, h⟩, hb⟩
  cases h
  exact ⟨rfl, hb⟩
theorem nearOk : ∀ args H out, nearExt args H = some out → Enters Try.prog 25 ∧ H.length ≤ out.heap.length ∧ ∀ B μ w us, HR B μ H w → VRs μ args us → Calls Try.prog 25 us.toArray w (OutR B μ H w out) := by
  intro args H out h
  unfold nearExt at h
  split at h
  · rename_i n v a
    split at h
    · rename_i es hes
      cases h
      refine ⟨Go.Ai.enters_of Try.func25 (by kernel_rfl) (by kernel_rfl), Nat.zero_le _, fun B μ w us hH hv => ?_⟩
      have hE := exE_is hes
      obtain ⟨u1, t1, rfl, h1, hv⟩ := hv.cases_cons
      obtain ⟨u2, t2, rfl, h2, hv⟩ := hv.cases_cons
      have := hv.cases_nil; subst this
      obtain ⟨ys, rfl, hys⟩ : ∃ ys : List Value, u1 = .agg ys.toArray ∧ VRs μ [.int .i64 n, v] ys := by cases h1 with | agg a b => exact ⟨_, rfl, a, b⟩
      obtain ⟨y1, s1, rfl, k1, hys⟩ := hys.cases_cons
      obtain ⟨y2, s2, rfl, k2, hys⟩ := hys.cases_cons
      have := hys.cases_nil; subst this
      cases k1; cases h2
      have hC := ce_of hH.im hE k2
      obtain ⟨sa, sn, sc, rfl⟩ := hC.sl
      have hR : ∀ W', Below w.heap.size w W' → CallsIn Fence.wide (5 - 1) Try.prog 34 #[.agg #[.int .i64 n, .slice sa sn sc]] W' fun e w' => e = .returned (.bool (rightE n es)) ∧ Below W'.heap.size W' w' :=
        fun W' hb => callsIn_wide.2 (rightC hE (vr_later hH.im hE.closed k2 hb))
      cases hr : rightE n es with
      | false =>
        rw [hr] at hR
        refine (callsIn_wide.1 (nearx_not Fence.wide 5 trivial trivial trivial trivial rfl (by decide) n sa sn sc a w hR)).mono ?_
        rintro e w' ⟨u, rfl, hb⟩
        have : nearI n es a = [] := by simp [nearI, hr]
        rw [this]
        exact near_out hH hb
      | true =>
        rw [hr] at hR
        refine (callsIn_wide.1 (nearx_in Fence.wide 5 trivial trivial trivial trivial rfl (by decide) n sa sn sc a es (right_len hr).2.2 w hC hR)).mono ?_
        rintro e w' ⟨u, rfl, hb⟩
        have : nearI n es a = nbs a es := by simp [nearI, hr]
        rw [this]
        exact near_out hH hb
    · cases h
  · cases h
def ext : Nat → Option (List AV → Heap → Option (Out AV))
  | 46 => some (sortExt 47)
  | 20 => some clsExt
  | 25 => some nearExt
  | _ => none
def AP : AProg := ⟨fns, ext⟩
theorem extOk : ExtSound Try.prog AP.ext := by
  intro f g h
  simp only [AP] at h
  unfold ext at h
  split at h
  · cases h; exact sortOk
  · cases h; exact cls_ext
  · cases h; exact nearOk
  · cases h
def isTrue : Option (Out AV) → Bool
  | some (.ok (.bool true) _) => true
  | _ => false
theorem shown_true : isTrue (callK AP 40 10 [] []) = true := by kernel_rfl
theorem shown : PVal AP (φs 59) [] (.bool true) := by
  have h := shown_true
  unfold isTrue at h
  split at h
  · rename_i H e
    exact ⟨40, _, H, e, viewR_closed rfl⟩
  · cases h
theorem spt : Go.Ai.G.SP AP φs := {
  new := ⟨rfl, rfl⟩
  is := ⟨rfl, rfl⟩
  top := ⟨rfl, rfl⟩
  join := ⟨rfl, rfl⟩
  same := ⟨rfl, rfl⟩
  count := ⟨rfl, rfl⟩
  classes := rfl
  rows := fun v u xs ys hv hu h1 h2 => w_SameRows ⟨rfl, rfl⟩ (fun v u xs ys hv hu hn => w_Same ⟨rfl, rfl⟩ v u xs ys hv hu hn) v u xs ys hv hu h1 h2 }
theorem hcmp : ∀ x y : Ed, PVal AP (φs 31) [gE x, gE y] (.int .i64 (cmpE x y)) := w_compare ⟨rfl, rfl⟩ ⟨rfl, rfl⟩ ⟨rfl, rfl⟩ ⟨rfl, rfl⟩
theorem hRight : RightC AP (φs 4) := fun n v es hv => w_Right ⟨rfl, rfl⟩ hcmp n v es hv
theorem hNorm : NormalC AP (φs 1) := fun n v l hv hn => w_Normal ⟨rfl, rfl⟩ rfl ⟨rfl, rfl⟩ n v l hv hn
theorem hRNorm : NormalC AP (φs 2) := fun n v l hv hn => w_RNormal ⟨rfl, rfl⟩ ⟨rfl, rfl⟩ ⟨rfl, rfl⟩ n v l hv hn
theorem sbt : Go.Ai.G.SB AP φs := ⟨spt, ⟨rfl, rfl⟩, hRight, fun n most v l hv h0 h1 => w_Any ⟨rfl, rfl⟩ hRNorm n most v l hv h0 h1, fun v xs x hv hn => w_In ⟨rfl, rfl⟩ v xs x hv hn⟩
theorem sbt2 : Go.Ai.G.SB2 AP φs := ⟨sbt, fun n a b v es hv => w_Add ⟨rfl, rfl⟩ hRight hNorm ⟨rfl, rfl⟩ n a b v es hv⟩
end Go.Proofs.Ytmekjhnlmoidpaa.M
namespace Go.Proofs.Ytmekjhnlmoidpaa.M
open Go.Ai Go.Ai.G Go.RowKit Go.Proofs.Ytmekjhnlmoidpaa.N
theorem sct4 : Go.Ai.G.SC4 AP φs := ⟨sbt, ⟨rfl, rfl⟩, fun n v es hv => w_RRight ⟨rfl, rfl⟩ n v es hv, fun n a v es hv => w_RNear ⟨rfl, rfl⟩ ⟨rfl, rfl⟩ ⟨rfl, rfl⟩ n a v es hv, fun v xs hv hn => w_Sorted ⟨rfl, rfl⟩ v xs hv hn⟩
end Go.Proofs.Ytmekjhnlmoidpaa.M
