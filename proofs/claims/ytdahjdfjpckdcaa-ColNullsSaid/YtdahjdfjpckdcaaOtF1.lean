/- The law ColNulls: the paths. -/
import Derived.Test.YtdahjdfjpckdcaaOtF0
namespace Go.Proofs.Ytdahjdfjpckdcaa
open Go Go.Vm
set_option maxRecDepth 100000
def Ks : List Int := [1, 2, 3]
theorem co_pre (G : OvD) (N D : Int) (k : Nat) (X : List AV) : (exL Try.prog (orS Try.prog (mCo G) 60) (mCo G) 59 60 (first 4 co) (mk ([0, 1].zip [vB8 N, vB8 D])) [] ([(5, wN (Int.ofNat k)), (2, .ifc 4294967294 (.tup [.ref 0 0 0 k, .agg ([rvB X 0 false].map encB)]))], [])).map (Vm.seen [1, 5, 6]) =
    some (.nrm, [vB8 D, wN (Int.ofNat k), .ref 0 0 0 k], [rvB X 0 false], ([], [(outAll (mkSl Try.prog 36 k []), .tup [.ref 0 0 0 k, .agg ([rvB X 0 false].map encB)]), (wN (IntKind.wrap .i64 (N.tmod 70)), wN (Int.ofNat k))])) := by kernel_rfl
theorem co_in (G : OvD) (D : Int) (k m : Nat) (X Z : List AV) : (Ks.map fun q => (exS Try.prog (orS Try.prog (mCo G) 60) (mCo G) 59 60 (cN 4 co) (mk ([1, 5, 6].zip [vB8 D, wN (Int.ofNat k), .lst k X])) [] ([(4, wN q), (0, .ifc 4294967293 (.tup [.lst (2 + m) ([vB8 1, vB8 (Int.ofNat k)] ++ Z), wN 1, wN 0])), (9, wB false), (12, wN (Int.ofNat (2 + m))), (0, wB true), (3, .ifc 4294967295 (.ip ([vB8 1, vB8 (Int.ofNat k)] ++ Z) (1 * 1))), (1, wN (Int.ofNat k)), (1, wB true)], [])).map (Vm.seen [4])) =
    Ks.map fun q => some (.ret, [wB true], [], ([], [(wB (decide (Int.ofNat k = Int.ofNat k)), wB true), (wN (IntKind.wrap .i64 (Int.ofNat k)), wN (Int.ofNat k)), (ixO 1 (2 + m) ([vB8 1, vB8 (Int.ofNat k)] ++ Z) (1 * 1) [], .ip ([vB8 1, vB8 (Int.ofNat k)] ++ Z) (1 * 1)), (wB (decide (Int.ofNat (2 + m) = Int.ofNat (2 + m))), wB true), (wN (IntKind.wrap .i64 (2 + IntKind.wrap .i64 ((IntKind.wrap .i64 (Int.ofNat k + 7)).tdiv 8))), wN (Int.ofNat (2 + m))), (wB (decide (Int.ofNat k > 64)), wB false), (outF (G [.lst k X, wN q] []), .tup [.lst (2 + m) ([vB8 1, vB8 (Int.ofNat k)] ++ Z), wN 1, wN 0]), (wN (IntKind.wrap .i64 (1 + IntKind.wrap .i64 (D.tmod 3))), wN q)])) := by kernel_rfl
theorem co_long (G : OvD) (D : Int) (k : Nat) (X : List AV) : (Ks.map fun q => (exS Try.prog (orS Try.prog (mCo G) 60) (mCo G) 59 60 (cN 4 co) (mk ([1, 5, 6].zip [vB8 D, wN (Int.ofNat k), .lst k X])) [] ([(4, wN q), (0, .ifc 4294967293 (.tup [nilS, wN 0, wN 4])), (9, wB true)], [])).map (Vm.seen [4])) =
    Ks.map fun q => some (.ret, [wB true], [], ([], [(wB (decide (Int.ofNat k > 64)), wB true), (outF (G [.lst k X, wN q] []), .tup [nilS, wN 0, wN 4]), (wN (IntKind.wrap .i64 (1 + IntKind.wrap .i64 (D.tmod 3))), wN q)])) := by kernel_rfl
theorem co_zero (N D : Int) : (Ks.map fun q => runS Try.prog mCz 60 10 [vB8 N, vB8 D] [] ([(5, wN 0), (8, wN q)], [])) =
    Ks.map fun q => some (wB true, [], ([], [(wN (IntKind.wrap .i64 (1 + IntKind.wrap .i64 (D.tmod 3))), wN q), (wN (IntKind.wrap .i64 (N.tmod 70)), wN 0)])) := by kernel_rfl
end Go.Proofs.Ytdahjdfjpckdcaa
