/- The best way of Nulls alone: the paths. -/
import Derived.Test.YtdahjdfjpckdcaaOtD
namespace Go.Proofs.Ytdahjdfjpckdcaa
open Go Go.Vm
set_option maxRecDepth 100000
theorem best1 (D E : OvD) (X x1 x2 x3 : List AV) (a l1 l2 l3 : Nat) : runS Try.prog (mBe D E) 60 33 [.lst a X, wN 1] [] ([(7, .ifc 4294967293 (wN 0)), (9, .ifc 4294967293 (.tup [.lst l1 x1, wN 0])), (26, .ifc 4294967293 (.tup [.lst l2 x2, wN 0])), (16, wB false), (10, .ifc 4294967293 (.tup [.lst l3 x3, wN 0])), (16, wB false), (10, .ifc 4294967293 (.tup [nilS, wN 1]))], []) =
    some (.tup [.lst l1 x1, wN 1, wN 0], [], ([], [(outF (E [.lst a X, wN 1, wN 4] []), .tup [nilS, wN 1]), (wB (decide (Int.ofNat l3 < Int.ofNat l1)), wB false), (outF (E [.lst a X, wN 1, wN 3] []), .tup [.lst l3 x3, wN 0]), (wB (decide (Int.ofNat l2 < Int.ofNat l1)), wB false), (outF (E [.lst a X, wN 1, wN 2] []), .tup [.lst l2 x2, wN 0]), (outF (E [.lst a X, wN 1, wN 1] []), .tup [.lst l1 x1, wN 0]), (outF (D [.lst a X, wN 1] []), wN 0)])) := by kernel_rfl
theorem best2 (D E : OvD) (X x1 x4 : List AV) (a l1 l4 : Nat) : runS Try.prog (mBe D E) 60 33 [.lst a X, wN 2] [] ([(7, .ifc 4294967293 (wN 0)), (9, .ifc 4294967293 (.tup [.lst l1 x1, wN 0])), (26, .ifc 4294967293 (.tup [nilS, wN 1])), (18, .ifc 4294967293 (.tup [nilS, wN 1])), (18, .ifc 4294967293 (.tup [.lst l4 x4, wN 0])), (16, wB false)], []) =
    some (.tup [.lst l1 x1, wN 1, wN 0], [], ([], [(wB (decide (Int.ofNat l4 < Int.ofNat l1)), wB false), (outF (E [.lst a X, wN 2, wN 4] []), .tup [.lst l4 x4, wN 0]), (outF (E [.lst a X, wN 2, wN 3] []), .tup [nilS, wN 1]), (outF (E [.lst a X, wN 2, wN 2] []), .tup [nilS, wN 1]), (outF (E [.lst a X, wN 2, wN 1] []), .tup [.lst l1 x1, wN 0]), (outF (D [.lst a X, wN 2] []), wN 0)])) := by kernel_rfl
theorem best3 (D E : OvD) (X x1 : List AV) (a l1 : Nat) : runS Try.prog (mBe D E) 60 33 [.lst a X, wN 3] [] ([(7, .ifc 4294967293 (wN 0)), (9, .ifc 4294967293 (.tup [.lst l1 x1, wN 0])), (26, .ifc 4294967293 (.tup [nilS, wN 1])), (18, .ifc 4294967293 (.tup [nilS, wN 1])), (18, .ifc 4294967293 (.tup [nilS, wN 1]))], []) =
    some (.tup [.lst l1 x1, wN 1, wN 0], [], ([], [(outF (E [.lst a X, wN 3, wN 4] []), .tup [nilS, wN 1]), (outF (E [.lst a X, wN 3, wN 3] []), .tup [nilS, wN 1]), (outF (E [.lst a X, wN 3, wN 2] []), .tup [nilS, wN 1]), (outF (E [.lst a X, wN 3, wN 1] []), .tup [.lst l1 x1, wN 0]), (outF (D [.lst a X, wN 3] []), wN 0)])) := by kernel_rfl
theorem bestL (D E : OvD) (X : List AV) (a : Nat) (K : Int) : runS Try.prog (mBe D E) 60 33 [.lst a X, wN K] [] ([(7, .ifc 4294967293 (wN 4))], []) =
    some (.tup [nilS, wN 0, wN 4], [], ([], [(outF (D [.lst a X, wN K] []), wN 4)])) := by kernel_rfl
end Go.Proofs.Ytdahjdfjpckdcaa
