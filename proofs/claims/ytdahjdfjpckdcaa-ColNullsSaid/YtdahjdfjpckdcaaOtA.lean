/- Rows of Nulls in bytes: the paths. -/
import Derived.Test.YtdahjdfjpckdcaaOtA0
namespace Go.Proofs.Ytdahjdfjpckdcaa
open Go Go.Vm
set_option maxRecDepth 100000
theorem cn_pre (X : List AV) (a : Nat) (K : Int) : (exL Try.prog gS mC 33 60 (first 3 ck) (mk ([0, 1].zip [.lst a X, wN K])) [] ([(2, wB false), (2, wB false), (3, wB false)], [])).map (Vm.seen [0, 1]) =
    some (.nrm, [.lst a X, wN K], [], ([], [(wB (decide (Int.ofNat a > 64)), wB false), (wB (decide (K > 3)), wB false), (wB (decide (K < 1)), wB false)])) := by kernel_rfl
theorem cn_long (X : List AV) (a : Nat) (K : Int) : (exL Try.prog gS mC 33 60 (first 3 ck) (mk ([0, 1].zip [.lst a X, wN K])) [] ([(2, wB false), (2, wB false), (3, wB true)], [])).map (Vm.seen [4]) =
    some (.ret, [wN 4], [], ([], [(wB (decide (Int.ofNat a > 64)), wB true), (wB (decide (K > 3)), wB false), (wB (decide (K < 1)), wB false)])) := by kernel_rfl
theorem cn_i0 (X : List AV) (a : Nat) (K : Int) : (exL Try.prog gS mC 33 60 [cL (cL (cN 3 ck))] (mk ([0, 1].zip [.lst a X, wN K])) [] ([], [])).map (Vm.seen [0, 1, 17, 18, 19]) =
    some (.nrm, [.lst a X, wN K, .lst a X, wN (Int.ofNat a), wN (Int.ofNat 0)], [], ([], [])) := by kernel_rfl
theorem cn_in (X : List AV) (a i : Nat) (K : Int) : (exL Try.prog gS mC 33 60 (first 3 ckB) (mk ([0, 1, 17, 18, 19].zip [.lst a X, wN K, .lst a X, wN (Int.ofNat a), wN (Int.ofNat i)])) [] ([(0, wB true), (0, .ifc 4294967295 (.ip X (i * 4))), (0, .ifc 4294967295 (.agg nulC))], [])).map (Vm.seen [0, 1, 17, 18, 19]) =
    some (.nrm, [.lst a X, wN K, .lst a X, wN (Int.ofNat a), wN (Int.ofNat i)], [bC' nulC], ([], [(ldO Try.prog 34 X (i * 4) [], .agg nulC), (ixO i a X (i * 4) [], .ip X (i * 4)), (wB (decide (Int.ofNat i < Int.ofNat a)), wB true)])) := by kernel_rfl
theorem cn_out (X : List AV) (a i : Nat) (K : Int) : (exL Try.prog gS mC 33 60 (first 3 ckB) (mk ([0, 1, 17, 18, 19].zip [.lst a X, wN K, .lst a X, wN (Int.ofNat a), wN (Int.ofNat i)])) [] ([(0, wB false)], [])).map (Vm.seen []) =
    some (.exit 0, [], [], ([], [(wB (decide (Int.ofNat i < Int.ofNat a)), wB false)])) := by kernel_rfl
theorem cn_up (X : List AV) (a i : Nat) (K : Int) : (exS Try.prog gS mC 33 60 (cN 3 ckB) (mk ([0, 1, 17, 18, 19].zip [.lst a X, wN K, .lst a X, wN (Int.ofNat a), wN (Int.ofNat i)])) [] ([(0, wN (Int.ofNat (i + 1)))], [])).map (Vm.seen [0, 1, 17, 18, 19]) =
    some (.nrm, [.lst a X, wN K, .lst a X, wN (Int.ofNat a), wN (Int.ofNat (i + 1))], [], ([], [(wN (IntKind.wrap .i64 (Int.ofNat i + 1)), wN (Int.ofNat (i + 1)))])) := by kernel_rfl
theorem wd_pre (X : List AV) (a : Nat) : (exL Try.prog (orS Try.prog m0' 60) m0' 18 60 (first 2 wd) (mk ([0].zip [.lst a X])) [] ([], [])).map (Vm.seen [0, 3]) =
    some (.nrm, [.lst a X, wN 0], [], ([], [])) := by kernel_rfl
theorem wd_i0 (X : List AV) (a : Nat) : (exL Try.prog (orS Try.prog m0' 60) m0' 18 60 [cL (cL (cN 2 wd))] (mk ([0, 3].zip [.lst a X, wN 0])) [] ([], [])).map (Vm.seen [3, 6, 7, 8]) =
    some (.nrm, [wN 0, .lst a X, wN (Int.ofNat a), wN (Int.ofNat 0)], [], ([], [])) := by kernel_rfl
theorem wd_in (X : List AV) (a i : Nat) : (exL Try.prog (orS Try.prog m0' 60) m0' 18 60 (first 3 wdB) (mk ([3, 6, 7, 8].zip [wN 0, .lst a X, wN (Int.ofNat a), wN (Int.ofNat i)])) [] ([(0, wB true), (0, .ifc 4294967295 (.ip X (i * 1))), (0, .ifc 4294967295 (v64 0))], [])).map (Vm.seen [3, 6, 7, 8]) =
    some (.nrm, [wN 0, .lst a X, wN (Int.ofNat a), wN (Int.ofNat i)], [], ([], [(ldO Try.prog 159 X (i * 1) [], v64 0), (ixO i a X (i * 1) [], .ip X (i * 1)), (wB (decide (Int.ofNat i < Int.ofNat a)), wB true)])) := by kernel_rfl
theorem wd_out (X : List AV) (a i : Nat) : (exL Try.prog (orS Try.prog m0' 60) m0' 18 60 (first 3 wdB) (mk ([3, 6, 7, 8].zip [wN 0, .lst a X, wN (Int.ofNat a), wN (Int.ofNat i)])) [] ([(0, wB false)], [])).map (Vm.seen [3]) =
    some (.exit 0, [wN 0], [], ([], [(wB (decide (Int.ofNat i < Int.ofNat a)), wB false)])) := by kernel_rfl
theorem wd_up (X : List AV) (a i : Nat) : (exS Try.prog (orS Try.prog m0' 60) m0' 18 60 (cN 3 wdB) (mk ([3, 6, 7, 8].zip [wN 0, .lst a X, wN (Int.ofNat a), wN (Int.ofNat i)])) [] ([(0, wN (Int.ofNat (i + 1)))], [])).map (Vm.seen [3, 6, 7, 8]) =
    some (.nrm, [wN 0, .lst a X, wN (Int.ofNat a), wN (Int.ofNat (i + 1))], [], ([], [(wN (IntKind.wrap .i64 (Int.ofNat i + 1)), wN (Int.ofNat (i + 1)))])) := by kernel_rfl
theorem wd_end (h : List Blk) : (exL Try.prog (orS Try.prog m0' 60) m0' 18 60 [cL (cN 3 wd)] (mk ([3].zip [wN 0])) h ([], [])).map (Vm.seen [2]) =
    some (.nrm, [wN 0], h, ([], [])) := by kernel_rfl
theorem pk_0 (A B : List AV → List Blk → Option (AV × List Blk)) (x y : AV) : (exL Try.prog (orS Try.prog (mP A B) 60) (mP A B) 61 60 [cL (bodyOf Try.f120)] (mk ([0, 1].zip [x, y])) [] ([], [])).map (Vm.seen [0, 1]) =
    some (.nrm, [x, y], [], ([], [])) := by kernel_rfl
theorem pk_pre (A B : List AV → List Blk → Option (AV × List Blk)) (X : List AV) (a m : Nat) : (exL Try.prog (orS Try.prog (mP A B) 60) (mP A B) 61 60 (first 4 pk) (mk ([0, 1].zip [.lst a X, wN 1])) [] ([(9, .ifc 4294967293 (wN 0)), (6, wB false), (8, wB true), (2, wB true), (16, wN (Int.ofNat m)), (2, .ifc 4294967294 (.tup [.ref 0 0 0 m, .agg ([zB m].map encB)]))], [])).map (Vm.seen [0, 1, 4, 6]) =
    some (.nrm, [.lst a X, wN 1, .ref 0 0 0 m, wN (Int.ofNat 0)], [zB m], ([], [(outAll (mkSl Try.prog 22 m []), .tup [.ref 0 0 0 m, .agg ([zB m].map encB)]), (wN (IntKind.wrap .i64 ((IntKind.wrap .i64 (IntKind.wrap .i64 (Int.ofNat a * 1) + 7)).tdiv 8)), wN (Int.ofNat m)), (wB (decide (Int.ofNat a ≤ 65536)), wB true), (wB (decide (Int.ofNat a ≥ 0)), wB true), (wB (decide (Int.ofNat a > 65536)), wB false), (outF (A [.lst a X] []), wN 0)])) := by kernel_rfl
theorem pk_i0 (A B : List AV → List Blk → Option (AV × List Blk)) (X : List AV) (a m : Nat) : (exL Try.prog (orS Try.prog (mP A B) 60) (mP A B) 61 60 [cL (cL (cN 4 pk))] (mk ([0, 1, 4, 6].zip [.lst a X, wN 1, .ref 0 0 0 m, wN (Int.ofNat 0)])) [zB m] ([], [])).map (Vm.seen [1, 4, 6, 30, 31, 32]) =
    some (.nrm, [wN 1, .ref 0 0 0 m, wN (Int.ofNat 0), .lst a X, wN (Int.ofNat a), wN (Int.ofNat 0)], [zB m], ([], [])) := by kernel_rfl
def eight' : List Nat := [0, 1, 2, 3, 4, 5, 6, 7]
theorem pk_in (A B : List AV → List Blk → Option (AV × List Blk)) (X : List AV) (a i m q : Nat) : (eight'.map fun r => (exL Try.prog (orS Try.prog (mP A B) 60) (mP A B) 61 60 (first 3 pkB) (mk ([1, 4, 6, 30, 31, 32].zip [wN 1, .ref 0 0 0 m, wN (Int.ofNat i), .lst a X, wN (Int.ofNat a), wN (Int.ofNat i)])) [zB m] ([(0, wB true), (0, .ifc 4294967295 (.ip X (i * 1))), (0, .ifc 4294967295 (v64 0)), (8, wN (Int.ofNat q)), (0, .ifc 4294967295 (.ptr 0 0 (0 + q * 1))), (0, .ifc 4294967295 (vB8 0)), (6, wN (Int.ofNat r)), (2, .ifc 4294967295 (.ptr 0 0 (0 + q * 1))), (0, .ifc 4294967294 (.tup [.p undef, .agg ([zB m].map encB)])), (1, wN (Int.ofNat (i + 1)))], [])).map (Vm.seen [1, 4, 6, 30, 31, 32])) =
    eight'.map fun r => some (.nrm, [wN 1, .ref 0 0 0 m, wN (Int.ofNat (i + 1)), .lst a X, wN (Int.ofNat a), wN (Int.ofNat i)], [zB m], ([], [(wN (IntKind.wrap .i64 (Int.ofNat i + 1)), wN (Int.ofNat (i + 1))), (stR [zB m] 0 0 (0 + q * 1) [vB8 0], .tup [.p undef, .agg ([zB m].map encB)]), (ixR [zB m] q m 0 0 0 1, .ptr 0 0 (0 + q * 1)), (wN ((Int.ofNat i).tmod 8), wN (Int.ofNat r)), (ldO Try.prog 5 (zB m).cells (0 + q * 1) [zB m], vB8 0), (ixR [zB m] q m 0 0 0 1, .ptr 0 0 (0 + q * 1)), (wN (IntKind.wrap .i64 ((Int.ofNat i).tdiv 8)), wN (Int.ofNat q)), (ldO Try.prog 159 X (i * 1) [zB m], v64 0), (ixO i a X (i * 1) [zB m], .ip X (i * 1)), (wB (decide (Int.ofNat i < Int.ofNat a)), wB true)])) := by kernel_rfl
theorem pk_out (A B : List AV → List Blk → Option (AV × List Blk)) (X : List AV) (a i m : Nat) (s : AV) : (exL Try.prog (orS Try.prog (mP A B) 60) (mP A B) 61 60 (first 3 pkB) (mk ([1, 4, 6, 30, 31, 32].zip [wN 1, .ref 0 0 0 m, s, .lst a X, wN (Int.ofNat a), wN (Int.ofNat i)])) [zB m] ([(0, wB false)], [])).map (Vm.seen [4]) =
    some (.exit 0, [.ref 0 0 0 m], [zB m], ([], [(wB (decide (Int.ofNat i < Int.ofNat a)), wB false)])) := by kernel_rfl
theorem pk_up (A B : List AV → List Blk → Option (AV × List Blk)) (X : List AV) (a i m : Nat) : (exS Try.prog (orS Try.prog (mP A B) 60) (mP A B) 61 60 (cN 3 pkB) (mk ([1, 4, 6, 30, 31, 32].zip [wN 1, .ref 0 0 0 m, wN (Int.ofNat (i + 1)), .lst a X, wN (Int.ofNat a), wN (Int.ofNat i)])) [zB m] ([(0, wN (Int.ofNat (i + 1)))], [])).map (Vm.seen [1, 4, 6, 30, 31, 32]) =
    some (.nrm, [wN 1, .ref 0 0 0 m, wN (Int.ofNat (i + 1)), .lst a X, wN (Int.ofNat a), wN (Int.ofNat (i + 1))], [zB m], ([], [(wN (IntKind.wrap .i64 (Int.ofNat i + 1)), wN (Int.ofNat (i + 1)))])) := by kernel_rfl
theorem pk_end (A B : List AV → List Blk → Option (AV × List Blk)) (x : AV) : (exL Try.prog (orS Try.prog (mP A B) 60) (mP A B) 61 60 [cL (cL (cN 5 pk))] (mk ([4].zip [x])) [] ([], [])).map (Vm.seen [4, 5]) =
    some (.nrm, [x, wN 0], [], ([], [])) := by kernel_rfl
end Go.Proofs.Ytdahjdfjpckdcaa
