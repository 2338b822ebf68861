/- Checking a column's values: its paths. -/
import Derived.Test.YtdahjdfjpckdcaaLtB0
namespace Go.Proofs.Ytdahjdfjpckdcaa
open Go Go.Vm
set_option maxRecDepth 100000
theorem ck_some (X : List AV) (a i : Nat) (n : Int) : (exL Try.prog gS mC 33 60 (first 3 ckB) (mk ([0, 1, 17, 18, 19].zip [.lst a X, wN 1, .lst a X, wN (Int.ofNat a), wN (Int.ofNat i)])) [] ([(0, wB true), (0, .ifc 4294967295 (.ip X (i * 4))), (0, .ifc 4294967295 (.agg (valC n))), (26, wB false)], [])).map (Vm.seen [0, 1, 17, 18, 19]) =
    some (.nrm, [.lst a X, wN 1, .lst a X, wN (Int.ofNat a), wN (Int.ofNat i)], [bC' (valC n)], ([], [(wB (!(selfC n)), wB false), (ldO Try.prog 34 X (i * 4) [], .agg (valC n)), (ixO i a X (i * 4) [], .ip X (i * 4)), (wB (decide (Int.ofNat i < Int.ofNat a)), wB true)])) := by kernel_rfl
theorem ck_none (X : List AV) (a i : Nat) : (exL Try.prog gS mC 33 60 (first 3 ckB) (mk ([0, 1, 17, 18, 19].zip [.lst a X, wN 1, .lst a X, wN (Int.ofNat a), wN (Int.ofNat i)])) [] ([(0, wB true), (0, .ifc 4294967295 (.ip X (i * 4))), (0, .ifc 4294967295 (.agg (nulC)))], [])).map (Vm.seen [0, 1, 17, 18, 19]) =
    some (.nrm, [.lst a X, wN 1, .lst a X, wN (Int.ofNat a), wN (Int.ofNat i)], [bC' (nulC)], ([], [(ldO Try.prog 34 X (i * 4) [], .agg (nulC)), (ixO i a X (i * 4) [], .ip X (i * 4)), (wB (decide (Int.ofNat i < Int.ofNat a)), wB true)])) := by kernel_rfl
theorem ck_pre (X : List AV) (a : Nat) : (exL Try.prog gS mC 33 60 (first 3 ck) (mk ([0, 1].zip [.lst a X, wN 1])) [] ([(9, wB false)], [])).map (Vm.seen [0, 1]) = some (.nrm, [.lst a X, wN 1], [], ([], [(wB (decide (Int.ofNat a > 64)), wB false)])) := by kernel_rfl
theorem ck_i0 (X : List AV) (a : Nat) : (exL Try.prog gS mC 33 60 [cL (cL (cN 3 ck))] (mk ([0, 1].zip [.lst a X, wN 1])) [] ([], [])).map (Vm.seen [0, 1, 17, 18, 19]) = some (.nrm, [.lst a X, wN 1, .lst a X, wN (Int.ofNat a), wN (Int.ofNat 0)], [], ([], [])) := by kernel_rfl
theorem ck_out (X : List AV) (a i : Nat) : (exL Try.prog gS mC 33 60 (first 3 ckB) (mk ([0, 1, 17, 18, 19].zip [.lst a X, wN 1, .lst a X, wN (Int.ofNat a), wN (Int.ofNat i)])) [] ([(0, wB false)], [])).map (Vm.seen []) = some (.exit 0, [], [], ([], [(wB (decide (Int.ofNat i < Int.ofNat a)), wB false)])) := by kernel_rfl
theorem ck_up (X : List AV) (a i : Nat) : (exS Try.prog gS mC 33 60 (cN 3 ckB) (mk ([0, 1, 17, 18, 19].zip [.lst a X, wN 1, .lst a X, wN (Int.ofNat a), wN (Int.ofNat i)])) [] ([(0, wN (Int.ofNat (i + 1)))], [])).map (Vm.seen [0, 1, 17, 18, 19]) =
    some (.nrm, [.lst a X, wN 1, .lst a X, wN (Int.ofNat a), wN (Int.ofNat (i + 1))], [], ([], [(wN (IntKind.wrap .i64 (Int.ofNat i + 1)), wN (Int.ofNat (i + 1)))])) := by kernel_rfl
theorem ck_end (l : List Blk) : (exL Try.prog gS mC 33 60 [cL (cN 4 ck)] (mk ([].zip [])) l ([], [])).map (Vm.seen [4]) = some (.nrm, [wN 0], l, ([], [])) := by kernel_rfl
end Go.Proofs.Ytdahjdfjpckdcaa
