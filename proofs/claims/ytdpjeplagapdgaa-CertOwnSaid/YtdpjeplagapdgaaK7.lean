/- A part of what the law leans on: the abstract machine, the contracts, the rows. -/
import Derived.Test.YtdpjeplagapdgaaK5
import Derived.Test.YtdpjeplagapdgaaChecked
/- The code of this seat, held against the program. -/
namespace Go.Proofs.Ytdpjeplagapdgaa.M
open Go.Ai Go.Ai.G
set_option maxRecDepth 100000
theorem chk11 : chkFn Try.prog 13 (f11 φs) = true := by kernel_rfl
theorem chk70 : chkFn Try.prog 24 (f70 φs) = true := by kernel_rfl
theorem chk84 : chkFn Try.prog 10 (f84 φs) = true := by kernel_rfl
theorem chk86 : chkFn Try.prog 12 (f86 φs) = true := by kernel_rfl
theorem chk88 : chkFn Try.prog 60 (f88 φs) = true := by kernel_rfl
theorem chk90 : chkFn Try.prog 59 (f90 φs) = true := by kernel_rfl
theorem chk92 : chkFn Try.prog 61 (f92 φs) = true := by kernel_rfl
theorem chk94 : chkFn Try.prog 57 (f94 φs) = true := by kernel_rfl
theorem chk96 : chkFn Try.prog 62 (f96 φs) = true := by kernel_rfl
theorem chk98 : chkFn Try.prog 58 (f98 φs) = true := by kernel_rfl
theorem chk99 : chkFn Try.prog 14 (f99 φs) = true := by kernel_rfl
theorem chk100 : chkFn Try.prog 3 (f100 φs) = true := by kernel_rfl
theorem chk101 : chkFn Try.prog 15 (f101 φs) = true := by kernel_rfl
theorem chk102 : chkFn Try.prog 16 (f102 φs) = true := by kernel_rfl
theorem chk103 : chkFn Try.prog 17 (f103 φs) = true := by kernel_rfl
theorem chk104 : chkFn Try.prog 4 (f104 φs) = true := by kernel_rfl
theorem chk106 : chkFn Try.prog 19 (f106 φs) = true := by kernel_rfl
theorem chk107 : chkFn Try.prog 5 (f107 φs) = true := by kernel_rfl
theorem chk108 : chkFn Try.prog 20 (f108 φs) = true := by kernel_rfl
theorem chk109 : chkFn Try.prog 21 (f109 φs) = true := by kernel_rfl
theorem chk110 : chkFn Try.prog 6 (f110 φs) = true := by kernel_rfl
theorem chk111 : chkFn Try.prog 7 (f111 φs) = true := by kernel_rfl
theorem chk112 : chkFn Try.prog 22 (f112 φs) = true := by kernel_rfl
theorem chk113 : chkFn Try.prog 23 (f113 φs) = true := by kernel_rfl
theorem chk114 : chkFn Try.prog 8 (f114 φs) = true := by kernel_rfl
theorem chk115 : chkFn Try.prog 9 (f115 φs) = true := by kernel_rfl
theorem chk116 : chkFn Try.prog 28 (f116 φs) = true := by kernel_rfl
theorem chk117 : chkFn Try.prog 27 (f117 φs) = true := by kernel_rfl
theorem chk118 : chkFn Try.prog 29 (f118 φs) = true := by kernel_rfl
theorem chk119 : chkFn Try.prog 30 (f119 φs) = true := by kernel_rfl
theorem chk120 : chkFn Try.prog 32 (f120 φs) = true := by kernel_rfl
theorem chk121 : chkFn Try.prog 31 (f121 φs) = true := by kernel_rfl
theorem chk122 : chkFn Try.prog 33 (f122 φs) = true := by kernel_rfl
theorem chk123 : chkFn Try.prog 35 (f123 φs) = true := by kernel_rfl
theorem chk124 : chkFn Try.prog 36 (f124 φs) = true := by kernel_rfl
theorem chk125 : chkFn Try.prog 37 (f125 φs) = true := by kernel_rfl
theorem chk126 : chkFn Try.prog 38 (f126 φs) = true := by kernel_rfl
theorem chk127 : chkFn Try.prog 39 (f127 φs) = true := by kernel_rfl
theorem chk128 : chkFn Try.prog 26 (f128 φs) = true := by kernel_rfl
theorem chkAll : (fns.all fun p => chkFn Try.prog p.1 p.2) = true := by
  simp only [fns, List.all_cons, List.all_nil, Bool.and_self, chk11, chk70, chk84, chk86, chk88, chk90, chk92, chk94, chk96, chk98, chk99, chk100, chk101, chk102, chk103, chk104, chk106, chk107, chk108, chk109, chk110, chk111, chk112, chk113, chk114, chk115, chk116, chk117, chk118, chk119, chk120, chk121, chk122, chk123, chk124, chk125, chk126, chk127, chk128]
end Go.Proofs.Ytdpjeplagapdgaa.M
