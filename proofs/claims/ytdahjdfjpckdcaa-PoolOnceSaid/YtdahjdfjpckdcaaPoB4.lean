/- PoolOnce: its run at k % 7 = 4. -/
import Derived.Test.YtdahjdfjpckdcaaPoA
import Derived.Test.YtdahjdfjpckdcaaVmG
namespace Go.Proofs.Ytdahjdfjpckdcaa
open Go Go.Vm
set_option maxRecDepth 100000
theorem po4 (k : Int) : runS Try.prog mPr 60 9 [.p (.int .u8 k), .p (.bool true)] [] ([(4, .p (.int .u8 4))], []) = some (.p (.bool true), [], ([], [(.p (.int .u8 (k.tmod 7)), .p (.int .u8 4))])) := by kernel_rfl
theorem qo4 (k : Int) : runS Try.prog mPr 60 9 [.p (.int .u8 k), .p (.bool false)] [] ([(4, .p (.int .u8 4))], []) = some (.p (.bool true), [], ([], [(.p (.int .u8 (k.tmod 7)), .p (.int .u8 4))])) := by kernel_rfl
end Go.Proofs.Ytdahjdfjpckdcaa
