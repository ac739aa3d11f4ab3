/- A part of what the law leans on: the abstract machine, the contracts, the rows. -/
import Derived.Test.YtdjanabcicdmlaaK7
import Derived.Test.YtdjanabcicdmlaaChecked
/- The code of this seat, held against the program. -/
namespace Go.Proofs.Ytdjanabcicdmlaa.M
open Go.Ai Go.Ai.G
set_option maxRecDepth 100000
theorem chk0 : chkFn Try.prog 10 (f0 φs) = true := by kernel_rfl
theorem chk1 : chkFn Try.prog 11 (f1 φs) = true := by kernel_rfl
theorem chk2 : chkFn Try.prog 12 (f2 φs) = true := by kernel_rfl
theorem chk3 : chkFn Try.prog 13 (f3 φs) = true := by kernel_rfl
theorem chk4 : chkFn Try.prog 14 (f4 φs) = true := by kernel_rfl
theorem chk5 : chkFn Try.prog 3 (f5 φs) = true := by kernel_rfl
theorem chk6 : chkFn Try.prog 15 (f6 φs) = true := by kernel_rfl
theorem chk8 : chkFn Try.prog 17 (f8 φs) = true := by kernel_rfl
theorem chk10 : chkFn Try.prog 20 (f10 φs) = true := by kernel_rfl
theorem chk11 : chkFn Try.prog 18 (f11 φs) = true := by kernel_rfl
theorem chk12 : chkFn Try.prog 21 (f12 φs) = true := by kernel_rfl
theorem chk13 : chkFn Try.prog 22 (f13 φs) = true := by kernel_rfl
theorem chk14 : chkFn Try.prog 4 (f14 φs) = true := by kernel_rfl
theorem chk15 : chkFn Try.prog 23 (f15 φs) = true := by kernel_rfl
theorem chk16 : chkFn Try.prog 24 (f16 φs) = true := by kernel_rfl
theorem chk17 : chkFn Try.prog 25 (f17 φs) = true := by kernel_rfl
theorem chk18 : chkFn Try.prog 26 (f18 φs) = true := by kernel_rfl
theorem chk19 : chkFn Try.prog 5 (f19 φs) = true := by kernel_rfl
theorem chk20 : chkFn Try.prog 6 (f20 φs) = true := by kernel_rfl
theorem chk21 : chkFn Try.prog 7 (f21 φs) = true := by kernel_rfl
theorem chk22 : chkFn Try.prog 27 (f22 φs) = true := by kernel_rfl
theorem chk23 : chkFn Try.prog 28 (f23 φs) = true := by kernel_rfl
theorem chk24 : chkFn Try.prog 8 (f24 φs) = true := by kernel_rfl
theorem chk25 : chkFn Try.prog 29 (f25 φs) = true := by kernel_rfl
theorem chk26 : chkFn Try.prog 9 (f26 φs) = true := by kernel_rfl
theorem chk28 : chkFn Try.prog 33 (f28 φs) = true := by kernel_rfl
theorem chk29 : chkFn Try.prog 31 (f29 φs) = true := by kernel_rfl
theorem chk30 : chkFn Try.prog 34 (f30 φs) = true := by kernel_rfl
theorem chk31 : chkFn Try.prog 32 (f31 φs) = true := by kernel_rfl
theorem chk32 : chkFn Try.prog 36 (f32 φs) = true := by kernel_rfl
theorem chk33 : chkFn Try.prog 37 (f33 φs) = true := by kernel_rfl
theorem chk34 : chkFn Try.prog 38 (f34 φs) = true := by kernel_rfl
theorem chk35 : chkFn Try.prog 42 (f35 φs) = true := by kernel_rfl
theorem chk36 : chkFn Try.prog 41 (f36 φs) = true := by kernel_rfl
theorem chk37 : chkFn Try.prog 54 (f37 φs) = true := by kernel_rfl
theorem chkAll : (fns.all fun p => chkFn Try.prog p.1 p.2) = true := by
  simp only [fns, List.all_cons, List.all_nil, Bool.and_self, chk0, chk1, chk2, chk3, chk4, chk5, chk6, chk8, chk10, chk11, chk12, chk13, chk14, chk15, chk16, chk17, chk18, chk19, chk20, chk21, chk22, chk23, chk24, chk25, chk26, chk28, chk29, chk30, chk31, chk32, chk33, chk34, chk35, chk36, chk37]
end Go.Proofs.Ytdjanabcicdmlaa.M
