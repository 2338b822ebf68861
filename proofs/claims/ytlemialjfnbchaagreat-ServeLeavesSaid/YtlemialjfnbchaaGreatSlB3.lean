/- ServeLeaves: its runs at n % 5 = 3. -/
import Derived.Test.YtlemialjfnbchaaGreatSlA

namespace Go.Proofs.YtlemialjfnbchaaGreat
open Go Go.Vm
set_option maxRecDepth 100000
theorem sl30FF (n : Nat) (Fr K : Int) : runS Tryz.prog mSlr 200 8 [V8 n, .agg [wi Fr, wi K, .p (.bool false), .p (.bool false)]] [] ([(6, .p (.int .i64 (Int.ofNat 0))), (68, V8 3)], []) = some (bT, [], ([], [(T8 n 5, V8 3), (NI K, .p (.int .i64 (Int.ofNat 0)))])) := by kernel_rfl
theorem sl30FT (n : Nat) (Fr K : Int) : runS Tryz.prog mSlr 200 8 [V8 n, .agg [wi Fr, wi K, .p (.bool false), .p (.bool true)]] [] ([(6, .p (.int .i64 (Int.ofNat 0))), (68, V8 3)], []) = some (bT, [], ([], [(T8 n 5, V8 3), (NI K, .p (.int .i64 (Int.ofNat 0)))])) := by kernel_rfl
theorem sl30TF (n : Nat) (Fr K : Int) : runS Tryz.prog mSlr 200 8 [V8 n, .agg [wi Fr, wi K, .p (.bool true), .p (.bool false)]] [] ([(6, .p (.int .i64 (Int.ofNat 0))), (68, V8 3)], []) = some (bT, [], ([], [(T8 n 5, V8 3), (NI K, .p (.int .i64 (Int.ofNat 0)))])) := by kernel_rfl
theorem sl30TT (n : Nat) (Fr K : Int) : runS Tryz.prog mSlr 200 8 [V8 n, .agg [wi Fr, wi K, .p (.bool true), .p (.bool true)]] [] ([(6, .p (.int .i64 (Int.ofNat 0))), (68, V8 3)], []) = some (bT, [], ([], [(T8 n 5, V8 3), (NI K, .p (.int .i64 (Int.ofNat 0)))])) := by kernel_rfl
theorem sl31FF (n : Nat) (Fr K : Int) : runS Tryz.prog mSlr 200 8 [V8 n, .agg [wi Fr, wi K, .p (.bool false), .p (.bool false)]] [] ([(6, .p (.int .i64 (Int.ofNat 1))), (68, V8 3)], []) = some (bT, [], ([], [(T8 n 5, V8 3), (NI K, .p (.int .i64 (Int.ofNat 1)))])) := by kernel_rfl
theorem sl31FT (n : Nat) (Fr K : Int) : runS Tryz.prog mSlr 200 8 [V8 n, .agg [wi Fr, wi K, .p (.bool false), .p (.bool true)]] [] ([(6, .p (.int .i64 (Int.ofNat 1))), (68, V8 3)], []) = some (bT, [], ([], [(T8 n 5, V8 3), (NI K, .p (.int .i64 (Int.ofNat 1)))])) := by kernel_rfl
theorem sl31TF (n : Nat) (Fr K : Int) : runS Tryz.prog mSlr 200 8 [V8 n, .agg [wi Fr, wi K, .p (.bool true), .p (.bool false)]] [] ([(6, .p (.int .i64 (Int.ofNat 1))), (68, V8 3)], []) = some (bT, [], ([], [(T8 n 5, V8 3), (NI K, .p (.int .i64 (Int.ofNat 1)))])) := by kernel_rfl
theorem sl31TT (n : Nat) (Fr K : Int) : runS Tryz.prog mSlr 200 8 [V8 n, .agg [wi Fr, wi K, .p (.bool true), .p (.bool true)]] [] ([(6, .p (.int .i64 (Int.ofNat 1))), (68, V8 3)], []) = some (bT, [], ([], [(T8 n 5, V8 3), (NI K, .p (.int .i64 (Int.ofNat 1)))])) := by kernel_rfl
end Go.Proofs.YtlemialjfnbchaaGreat
