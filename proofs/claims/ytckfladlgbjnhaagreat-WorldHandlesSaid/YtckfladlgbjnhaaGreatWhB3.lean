/- WorldHandles: its run at n % 5 = 3. -/
import Derived.Test.YtckfladlgbjnhaaGreatWhA
namespace Go.Proofs.YtckfladlgbjnhaaGreat
open Go Go.Vm
set_option maxRecDepth 100000
theorem wh3 (k : Int) : runS Tryz.prog mWr 60 10 [.p (.int .u8 k)] [] ([(18, .p (.int .u8 3))], []) = some (.p (.bool true), [], ([], [(.p (.int .u8 (k.tmod 5)), .p (.int .u8 3))])) := by kernel_rfl
end Go.Proofs.YtckfladlgbjnhaaGreat
