/- A part of what the law leans on: the abstract machine, the contracts, the rows. -/
import Derived.Test.YtmekjhnlmoidpaaK6
import Derived.Test.YtmekjhnlmoidpaaChecked
/- The code of this seat, held against the program. -/
namespace Go.Proofs.Ytmekjhnlmoidpaa.M
open Go.Ai Go.Ai.G
set_option maxRecDepth 100000
theorem chk1 : chkFn Try.prog 40 (f1 φs) = true := by kernel_rfl
theorem chk2 : chkFn Try.prog 38 (f2 φs) = true := by kernel_rfl
theorem chk4 : chkFn Try.prog 34 (f4 φs) = true := by kernel_rfl
theorem chk6 : chkFn Try.prog 35 (f6 φs) = true := by kernel_rfl
theorem chk10 : chkFn Try.prog 36 (f10 φs) = true := by kernel_rfl
theorem chk11 : chkFn Try.prog 31 (f11 φs) = true := by kernel_rfl
theorem chk15 : chkFn Try.prog 26 (f15 φs) = true := by kernel_rfl
theorem chk22 : chkFn Try.prog 24 (f22 φs) = true := by kernel_rfl
theorem chk25 : chkFn Try.prog 27 (f25 φs) = true := by kernel_rfl
theorem chk28 : chkFn Try.prog 48 (f28 φs) = true := by kernel_rfl
theorem chk29 : chkFn Try.prog 47 (f29 φs) = true := by kernel_rfl
theorem chk30 : chkFn Try.prog 37 (f30 φs) = true := by kernel_rfl
theorem chk31 : chkFn Try.prog 44 (f31 φs) = true := by kernel_rfl
theorem chk32 : chkFn Try.prog 41 (f32 φs) = true := by kernel_rfl
theorem chk35 : chkFn Try.prog 60 (f35 φs) = true := by kernel_rfl
theorem chk36 : chkFn Try.prog 59 (f36 φs) = true := by kernel_rfl
theorem chk37 : chkFn Try.prog 67 (f37 φs) = true := by kernel_rfl
theorem chk59 : chkFn Try.prog 10 (f59 φs) = true := by kernel_rfl
theorem chk60 : chkFn Try.prog 11 (f60 φs) = true := by kernel_rfl
theorem chk61 : chkFn Try.prog 12 (f61 φs) = true := by kernel_rfl
theorem chk62 : chkFn Try.prog 13 (f62 φs) = true := by kernel_rfl
theorem chk63 : chkFn Try.prog 14 (f63 φs) = true := by kernel_rfl
theorem chk64 : chkFn Try.prog 15 (f64 φs) = true := by kernel_rfl
theorem chk65 : chkFn Try.prog 16 (f65 φs) = true := by kernel_rfl
theorem chk66 : chkFn Try.prog 17 (f66 φs) = true := by kernel_rfl
theorem chk67 : chkFn Try.prog 18 (f67 φs) = true := by kernel_rfl
theorem chk69 : chkFn Try.prog 21 (f69 φs) = true := by kernel_rfl
theorem chk70 : chkFn Try.prog 19 (f70 φs) = true := by kernel_rfl
theorem chk71 : chkFn Try.prog 3 (f71 φs) = true := by kernel_rfl
theorem chk72 : chkFn Try.prog 22 (f72 φs) = true := by kernel_rfl
theorem chk73 : chkFn Try.prog 23 (f73 φs) = true := by kernel_rfl
theorem chk74 : chkFn Try.prog 4 (f74 φs) = true := by kernel_rfl
theorem chk75 : chkFn Try.prog 5 (f75 φs) = true := by kernel_rfl
theorem chk76 : chkFn Try.prog 6 (f76 φs) = true := by kernel_rfl
theorem chk77 : chkFn Try.prog 7 (f77 φs) = true := by kernel_rfl
theorem chk78 : chkFn Try.prog 8 (f78 φs) = true := by kernel_rfl
theorem chk79 : chkFn Try.prog 9 (f79 φs) = true := by kernel_rfl
theorem chk80 : chkFn Try.prog 28 (f80 φs) = true := by kernel_rfl
theorem chk81 : chkFn Try.prog 29 (f81 φs) = true := by kernel_rfl
theorem chk82 : chkFn Try.prog 30 (f82 φs) = true := by kernel_rfl
theorem chk83 : chkFn Try.prog 33 (f83 φs) = true := by kernel_rfl
theorem chkAll : (fns.all fun p => chkFn Try.prog p.1 p.2) = true := by
  simp only [fns, List.all_cons, List.all_nil, Bool.and_self, chk1, chk2, chk4, chk6, chk10, chk11, chk15, chk22, chk25, chk28, chk29, chk30, chk31, chk32, chk35, chk36, chk37, chk59, chk60, chk61, chk62, chk63, chk64, chk65, chk66, chk67, chk69, chk70, chk71, chk72, chk73, chk74, chk75, chk76, chk77, chk78, chk79, chk80, chk81, chk82, chk83]
end Go.Proofs.Ytmekjhnlmoidpaa.M
