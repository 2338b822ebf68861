/- PredMany: what comes of kids: the paths. -/
import Derived.Test.YtdahjdfjpckdcaaRtA0
namespace Go.Proofs.Ytdahjdfjpckdcaa
open Go Go.Vm
set_option maxRecDepth 100000
theorem jn_pre (A : OvR) (X : List AV) (a : Nat) : ([0, 1].map fun D => (exL Try.prog (jS A) (mJn A) 32 60 (first 2 jn) (mk ([0, 1, 2].zip [.lst a X, rowR, wN (Int.ofNat D)])) [] ([], [])).map (Vm.seen [0, 1, 2, 7])) =
    [0, 1].map fun D => some (.nrm, [.lst a X, rowR, wN (Int.ofNat D), wN (Int.ofNat (1 - D))], [], ([], [])) := by kernel_rfl
theorem jn_i0 (A : OvR) (X : List AV) (a : Nat) (D o : AV) : (exL Try.prog (jS A) (mJn A) 32 60 [cL (cL (cN 2 jn))] (mk ([0, 1, 2, 7].zip [.lst a X, rowR, D, o])) [] ([], [])).map (Vm.seen [1, 2, 7, 13, 14, 15]) =
    some (.nrm, [rowR, D, o, .lst a X, wN (Int.ofNat a), wN (Int.ofNat 0)], [], ([], [])) := by kernel_rfl
theorem jn_hit (A : OvR) (X : List AV) (a i : Nat) (o : AV) : ([0, 1].map fun q => (exL Try.prog (jS A) (mJn A) 32 60 (first 3 jnB) (mk ([1, 2, 7, 13, 14, 15].zip [rowR, wN (Int.ofNat q), o, .lst a X, wN (Int.ofNat a), wN (Int.ofNat i)])) [] ([(0, wB true), (0, .ifc 4294967295 (.ip X (i * 9))), (0, .ifc 4294967295 (.agg (kidC q))), (4, .ifc 4294967293 (wN (Int.ofNat q)))], [])).map (Vm.seen [6])) =
    [0, 1].map fun q => some (.ret, [wN (Int.ofNat q)], [bC' (kidC q)], ([], [(outF (A [.agg (kidC q), rowR] []), wN (Int.ofNat q)), (ldO Try.prog 46 X (i * 9) [], .agg (kidC q)), (ixO i a X (i * 9) [], .ip X (i * 9)), (wB (decide (Int.ofNat i < Int.ofNat a)), wB true)])) := by kernel_rfl
theorem jn_not (A : OvR) (X : List AV) (a i : Nat) (o : AV) : ([0, 1].map fun q => (exL Try.prog (jS A) (mJn A) 32 60 (first 3 jnB) (mk ([1, 2, 7, 13, 14, 15].zip [rowR, wN (Int.ofNat q), o, .lst a X, wN (Int.ofNat a), wN (Int.ofNat i)])) [] ([(0, wB true), (0, .ifc 4294967295 (.ip X (i * 9))), (0, .ifc 4294967295 (.agg (kidC (1 - q)))), (4, .ifc 4294967293 (wN (Int.ofNat (1 - q))))], [])).map (Vm.seen [1, 2, 7, 13, 14, 15])) =
    [0, 1].map fun q => some (.nrm, [rowR, wN (Int.ofNat q), o, .lst a X, wN (Int.ofNat a), wN (Int.ofNat i)], [bC' (kidC (1 - q))], ([], [(outF (A [.agg (kidC (1 - q)), rowR] []), wN (Int.ofNat (1 - q))), (ldO Try.prog 46 X (i * 9) [], .agg (kidC (1 - q))), (ixO i a X (i * 9) [], .ip X (i * 9)), (wB (decide (Int.ofNat i < Int.ofNat a)), wB true)])) := by kernel_rfl
theorem jn_un (A : OvR) (X : List AV) (a i : Nat) (o : AV) : ([0, 1].map fun q => (exL Try.prog (jS A) (mJn A) 32 60 (first 3 jnB) (mk ([1, 2, 7, 13, 14, 15].zip [rowR, wN (Int.ofNat q), o, .lst a X, wN (Int.ofNat a), wN (Int.ofNat i)])) [] ([(0, wB true), (0, .ifc 4294967295 (.ip X (i * 9))), (0, .ifc 4294967295 (.agg (kidC 2))), (4, .ifc 4294967293 (wN (Int.ofNat 2)))], [])).map (Vm.seen [1, 2, 7, 13, 14, 15])) =
    [0, 1].map fun q => some (.nrm, [rowR, wN (Int.ofNat q), wN 2, .lst a X, wN (Int.ofNat a), wN (Int.ofNat i)], [bC' (kidC 2)], ([], [(outF (A [.agg (kidC 2), rowR] []), wN (Int.ofNat 2)), (ldO Try.prog 46 X (i * 9) [], .agg (kidC 2)), (ixO i a X (i * 9) [], .ip X (i * 9)), (wB (decide (Int.ofNat i < Int.ofNat a)), wB true)])) := by kernel_rfl
theorem jn_out (A : OvR) (X : List AV) (a i : Nat) (D o : AV) : (exL Try.prog (jS A) (mJn A) 32 60 (first 3 jnB) (mk ([1, 2, 7, 13, 14, 15].zip [rowR, D, o, .lst a X, wN (Int.ofNat a), wN (Int.ofNat i)])) [] ([(0, wB false)], [])).map (Vm.seen [7]) =
    some (.exit 0, [o], [], ([], [(wB (decide (Int.ofNat i < Int.ofNat a)), wB false)])) := by kernel_rfl
theorem jn_up (A : OvR) (X : List AV) (a i : Nat) (D o : AV) : (exS Try.prog (jS A) (mJn A) 32 60 (cN 3 jnB) (mk ([1, 2, 7, 13, 14, 15].zip [rowR, D, o, .lst a X, wN (Int.ofNat a), wN (Int.ofNat i)])) [] ([(0, wN (Int.ofNat (i + 1)))], [])).map (Vm.seen [1, 2, 7, 13, 14, 15]) =
    some (.nrm, [rowR, D, o, .lst a X, wN (Int.ofNat a), wN (Int.ofNat (i + 1))], [], ([], [(wN (IntKind.wrap .i64 (Int.ofNat i + 1)), wN (Int.ofNat (i + 1)))])) := by kernel_rfl
theorem jn_end (A : OvR) (o : AV) (h : List Blk) : (exL Try.prog (jS A) (mJn A) 32 60 [cL (cN 3 jn)] (mk ([7].zip [o])) h ([], [])).map (Vm.seen [6]) =
    some (.nrm, [o], h, ([], [])) := by kernel_rfl
end Go.Proofs.Ytdahjdfjpckdcaa
