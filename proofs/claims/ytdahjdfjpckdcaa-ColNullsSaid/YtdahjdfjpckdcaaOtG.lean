/- ColNulls: the law's own known(). -/
import Derived.Test.YtdahjdfjpckdcaaOtF1
namespace Go.Proofs.Ytdahjdfjpckdcaa
open Go Go.Vm
set_option maxRecDepth 100000
theorem known32 : FnOk Try.prog 32 [] [] (wB true) [] := runV_ok (M := mByr) okByr 200 _ _ _ _ _ (by kernel_rfl)
end Go.Proofs.Ytdahjdfjpckdcaa
