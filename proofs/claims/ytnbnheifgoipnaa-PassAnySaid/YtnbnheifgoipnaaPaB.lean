/- PassAny along its one path. -/
import Derived.Test.YtnbnheifgoipnaaPaA
namespace Go.Proofs.Ytnbnheifgoipnaa
open Go Go.Vm
set_option maxRecDepth 100000
theorem any1 (a n d : Int) : runO Try.prog m2 50 3 [vR a n d] [] [(21, vT), (3, vT), (8, vT), (7, vT)] =
    some (vT, [], [(vB (rIs a n d = rIs a n d), vT), (.p (.bool ((a == a) && ((n == n) && ((rUp a n d == rUp a n d) && true)))), vT), (.p (.bool (rOk a n d == rOk a n d)), vT), (vB (rTo a n d = rTo a n d), vT)]) := by kernel_rfl
theorem any_run (a n d : Int) : runV Try.prog m2 50 3 [vR a n d] [] = some (vT, []) :=
  runO_ok (any1 a n d) (hold_T rfl (hold_b (by simp) (hold_b (by simp) (hold_T rfl hold_nil))))
theorem any_ok (a n d : Int) : FnOk Try.prog 3 [vR a n d] [] vT [] := runV_ok (M := m2) ok2 50 _ _ _ _ _ (any_run a n d)
end Go.Proofs.Ytnbnheifgoipnaa
