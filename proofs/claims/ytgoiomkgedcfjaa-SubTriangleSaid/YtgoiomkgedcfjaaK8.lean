/- A part of what the law leans on: the abstract machine, the contracts, the rows. -/
import Derived.Test.YtgoiomkgedcfjaaK6
import Derived.Test.YtgoiomkgedcfjaaChecked
/- The code of this seat, held against the program. -/
namespace Go.Proofs.Ytgoiomkgedcfjaa.M
open Go.Ai Go.Ai.G
set_option maxRecDepth 100000
theorem chk1 : chkFn Try.prog 38 (f1 φs) = true := by kernel_rfl
theorem chk2 : chkFn Try.prog 23 (f2 φs) = true := by kernel_rfl
theorem chk3 : chkFn Try.prog 14 (f3 φs) = true := by kernel_rfl
theorem chk4 : chkFn Try.prog 25 (f4 φs) = true := by kernel_rfl
theorem chk6 : chkFn Try.prog 19 (f6 φs) = true := by kernel_rfl
theorem chk8 : chkFn Try.prog 20 (f8 φs) = true := by kernel_rfl
theorem chk10 : chkFn Try.prog 34 (f10 φs) = true := by kernel_rfl
theorem chk22 : chkFn Try.prog 26 (f22 φs) = true := by kernel_rfl
theorem chk23 : chkFn Try.prog 30 (f23 φs) = true := by kernel_rfl
theorem chk25 : chkFn Try.prog 36 (f25 φs) = true := by kernel_rfl
theorem chk28 : chkFn Try.prog 44 (f28 φs) = true := by kernel_rfl
theorem chk29 : chkFn Try.prog 43 (f29 φs) = true := by kernel_rfl
theorem chk30 : chkFn Try.prog 22 (f30 φs) = true := by kernel_rfl
theorem chk31 : chkFn Try.prog 37 (f31 φs) = true := by kernel_rfl
theorem chk35 : chkFn Try.prog 41 (f35 φs) = true := by kernel_rfl
theorem chk36 : chkFn Try.prog 40 (f36 φs) = true := by kernel_rfl
theorem chk37 : chkFn Try.prog 45 (f37 φs) = true := by kernel_rfl
theorem chk38 : chkFn Try.prog 10 (f38 φs) = true := by kernel_rfl
theorem chk39 : chkFn Try.prog 11 (f39 φs) = true := by kernel_rfl
theorem chk40 : chkFn Try.prog 12 (f40 φs) = true := by kernel_rfl
theorem chk41 : chkFn Try.prog 13 (f41 φs) = true := by kernel_rfl
theorem chk42 : chkFn Try.prog 3 (f42 φs) = true := by kernel_rfl
theorem chk43 : chkFn Try.prog 15 (f43 φs) = true := by kernel_rfl
theorem chk44 : chkFn Try.prog 16 (f44 φs) = true := by kernel_rfl
theorem chk45 : chkFn Try.prog 17 (f45 φs) = true := by kernel_rfl
theorem chk46 : chkFn Try.prog 18 (f46 φs) = true := by kernel_rfl
theorem chk47 : chkFn Try.prog 4 (f47 φs) = true := by kernel_rfl
theorem chk48 : chkFn Try.prog 5 (f48 φs) = true := by kernel_rfl
theorem chk49 : chkFn Try.prog 6 (f49 φs) = true := by kernel_rfl
theorem chk50 : chkFn Try.prog 7 (f50 φs) = true := by kernel_rfl
theorem chk51 : chkFn Try.prog 8 (f51 φs) = true := by kernel_rfl
theorem chk52 : chkFn Try.prog 9 (f52 φs) = true := by kernel_rfl
theorem chk53 : chkFn Try.prog 27 (f53 φs) = true := by kernel_rfl
theorem chk54 : chkFn Try.prog 28 (f54 φs) = true := by kernel_rfl
theorem chk55 : chkFn Try.prog 29 (f55 φs) = true := by kernel_rfl
theorem chk56 : chkFn Try.prog 31 (f56 φs) = true := by kernel_rfl
theorem chk57 : chkFn Try.prog 32 (f57 φs) = true := by kernel_rfl
theorem chk58 : chkFn Try.prog 33 (f58 φs) = true := by kernel_rfl
theorem chkAll : (fns.all fun p => chkFn Try.prog p.1 p.2) = true := by
  simp only [fns, List.all_cons, List.all_nil, Bool.and_self, chk1, chk2, chk3, chk4, chk6, chk8, chk10, chk22, chk23, chk25, chk28, chk29, chk30, chk31, chk35, chk36, chk37, chk38, chk39, chk40, chk41, chk42, chk43, chk44, chk45, chk46, chk47, chk48, chk49, chk50, chk51, chk52, chk53, chk54, chk55, chk56, chk57, chk58]
end Go.Proofs.Ytgoiomkgedcfjaa.M
