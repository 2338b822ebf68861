/- PoolOnce: its run at k % 7 = 2. -/
import Derived.Test.YtdahjdfjpckdcaaPoA
import Derived.Test.YtdahjdfjpckdcaaVmG
namespace Go.Proofs.Ytdahjdfjpckdcaa
open Go Go.Vm
set_option maxRecDepth 100000
theorem po2 (k : Int) : runS Try.prog mPr 60 9 [.p (.int .u8 k), .p (.bool true)] [] ([(4, .p (.int .u8 2))], []) = some (.p (.bool true), [], ([], [(.p (.int .u8 (k.tmod 7)), .p (.int .u8 2))])) := by kernel_rfl
theorem qo2 (k : Int) : runS Try.prog mPr 60 9 [.p (.int .u8 k), .p (.bool false)] [] ([(4, .p (.int .u8 2))], []) = some (.p (.bool true), [], ([], [(.p (.int .u8 (k.tmod 7)), .p (.int .u8 2))])) := by kernel_rfl
end Go.Proofs.Ytdahjdfjpckdcaa
