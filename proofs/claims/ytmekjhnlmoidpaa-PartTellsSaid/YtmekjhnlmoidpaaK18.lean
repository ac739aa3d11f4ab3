/- A part of what the law leans on: the abstract machine, the contracts, the rows. -/
import Derived.Test.YtmekjhnlmoidpaaK8
import Derived.Test.YtmekjhnlmoidpaaK15
import Derived.Test.YtmekjhnlmoidpaaK17
namespace Go.Proofs.Ytmekjhnlmoidpaa.M
open Go.Ai Go.Ai.G Go.Proofs.Ytmekjhnlmoidpaa.N
set_option maxRecDepth 100000
def ext : Nat → Option (List AV → Heap → Option (Out AV))
  | 20 => some clsExt
  | _ => none
def AP : AProg := ⟨fns, ext⟩
theorem extOk : ExtSound Try.prog AP.ext := by
  intro f g h
  simp only [AP] at h
  unfold ext at h
  split at h
  · cases h; exact cls_ext
  · cases h
def isTrue : Option (Out AV) → Bool
  | some (.ok (.bool true) _) => true
  | _ => false
theorem shown_true : isTrue (callK AP 40 10 [] []) = true := by kernel_rfl
theorem shown : PVal AP (φs 59) [] (.bool true) := by
  have h := shown_true
  unfold isTrue at h
  split at h
  · rename_i H e
    exact ⟨40, _, H, e, viewR_closed rfl⟩
  · cases h
theorem spt : Go.Ai.G.SP AP φs := {
  new := ⟨rfl, rfl⟩
  is := ⟨rfl, rfl⟩
  top := ⟨rfl, rfl⟩
  join := ⟨rfl, rfl⟩
  same := ⟨rfl, rfl⟩
  count := ⟨rfl, rfl⟩
  classes := rfl
  rows := fun v u xs ys hv hu h1 h2 => w_SameRows ⟨rfl, rfl⟩ (fun v u xs ys hv hu hn => w_Same ⟨rfl, rfl⟩ v u xs ys hv hu hn) v u xs ys hv hu h1 h2 }
end Go.Proofs.Ytmekjhnlmoidpaa.M
namespace Go.Proofs.Ytmekjhnlmoidpaa.M
open Go.Ai Go.Ai.G Go.RowKit Go.Proofs.Ytmekjhnlmoidpaa.N
theorem stt4 : Go.Ai.G.ST4 AP φs := ⟨spt, ⟨rfl, rfl⟩, ⟨rfl, rfl⟩, ⟨rfl, rfl⟩, ⟨rfl, rfl⟩, ⟨rfl, rfl⟩, ⟨rfl, rfl⟩⟩
end Go.Proofs.Ytmekjhnlmoidpaa.M
