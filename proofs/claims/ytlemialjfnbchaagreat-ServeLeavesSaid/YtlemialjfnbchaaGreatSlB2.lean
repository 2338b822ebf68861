/- ServeLeaves: its runs at n % 5 = 2. -/
import Derived.Test.YtlemialjfnbchaaGreatSlA

namespace Go.Proofs.YtlemialjfnbchaaGreat
open Go Go.Vm
set_option maxRecDepth 100000
theorem sl20FF (n : Nat) (Fr K : Int) : runS Tryz.prog mSlr 200 8 [V8 n, .agg [wi Fr, wi K, .p (.bool false), .p (.bool false)]] [] ([(6, .p (.int .i64 (Int.ofNat 0))), (68, V8 2)], []) = some (bT, [], ([], [(T8 n 5, V8 2), (NI K, .p (.int .i64 (Int.ofNat 0)))])) := by kernel_rfl
theorem sl20FT (n : Nat) (Fr K : Int) : runS Tryz.prog mSlr 200 8 [V8 n, .agg [wi Fr, wi K, .p (.bool false), .p (.bool true)]] [] ([(6, .p (.int .i64 (Int.ofNat 0))), (68, V8 2)], []) = some (bT, [], ([], [(T8 n 5, V8 2), (NI K, .p (.int .i64 (Int.ofNat 0)))])) := by kernel_rfl
theorem sl20TF (n : Nat) (Fr K : Int) : runS Tryz.prog mSlr 200 8 [V8 n, .agg [wi Fr, wi K, .p (.bool true), .p (.bool false)]] [] ([(6, .p (.int .i64 (Int.ofNat 0))), (68, V8 2)], []) = some (bT, [], ([], [(T8 n 5, V8 2), (NI K, .p (.int .i64 (Int.ofNat 0)))])) := by kernel_rfl
theorem sl20TT (n : Nat) (Fr K : Int) : runS Tryz.prog mSlr 200 8 [V8 n, .agg [wi Fr, wi K, .p (.bool true), .p (.bool true)]] [] ([(6, .p (.int .i64 (Int.ofNat 0))), (68, V8 2)], []) = some (bT, [], ([], [(T8 n 5, V8 2), (NI K, .p (.int .i64 (Int.ofNat 0)))])) := by kernel_rfl
theorem sl21FF (n : Nat) (Fr K : Int) : runS Tryz.prog mSlr 200 8 [V8 n, .agg [wi Fr, wi K, .p (.bool false), .p (.bool false)]] [] ([(6, .p (.int .i64 (Int.ofNat 1))), (68, V8 2)], []) = some (bT, [], ([], [(T8 n 5, V8 2), (NI K, .p (.int .i64 (Int.ofNat 1)))])) := by kernel_rfl
theorem sl21FT (n : Nat) (Fr K : Int) : runS Tryz.prog mSlr 200 8 [V8 n, .agg [wi Fr, wi K, .p (.bool false), .p (.bool true)]] [] ([(6, .p (.int .i64 (Int.ofNat 1))), (68, V8 2)], []) = some (bT, [], ([], [(T8 n 5, V8 2), (NI K, .p (.int .i64 (Int.ofNat 1)))])) := by kernel_rfl
theorem sl21TF (n : Nat) (Fr K : Int) : runS Tryz.prog mSlr 200 8 [V8 n, .agg [wi Fr, wi K, .p (.bool true), .p (.bool false)]] [] ([(6, .p (.int .i64 (Int.ofNat 1))), (68, V8 2)], []) = some (bT, [], ([], [(T8 n 5, V8 2), (NI K, .p (.int .i64 (Int.ofNat 1)))])) := by kernel_rfl
theorem sl21TT (n : Nat) (Fr K : Int) : runS Tryz.prog mSlr 200 8 [V8 n, .agg [wi Fr, wi K, .p (.bool true), .p (.bool true)]] [] ([(6, .p (.int .i64 (Int.ofNat 1))), (68, V8 2)], []) = some (bT, [], ([], [(T8 n 5, V8 2), (NI K, .p (.int .i64 (Int.ofNat 1)))])) := by kernel_rfl
end Go.Proofs.YtlemialjfnbchaaGreat
