/- DayDown: its runs at n % 8 = 1, 2, 5 and 6. -/
import Derived.Test.YtckfladlgbjnhaaGreatDdA
namespace Go.Proofs.YtckfladlgbjnhaaGreat
open Go Go.Vm
set_option maxRecDepth 100000
theorem dd1f (k : Int) : runS Tryz.prog mDdr 60 12 [.p (.int .u8 k), .p (.bool false)] [] ([(4, .p (.int .u8 1))], []) = some (.p (.bool true), [], ([], [(.p (.int .u8 (k.tmod 8)), .p (.int .u8 1))])) := by kernel_rfl
theorem dd1t (k : Int) : runS Tryz.prog mDdr 60 12 [.p (.int .u8 k), .p (.bool true)] [] ([(4, .p (.int .u8 1))], []) = some (.p (.bool true), [], ([], [(.p (.int .u8 (k.tmod 8)), .p (.int .u8 1))])) := by kernel_rfl
theorem dd2f (k : Int) : runS Tryz.prog mDdr 60 12 [.p (.int .u8 k), .p (.bool false)] [] ([(4, .p (.int .u8 2))], []) = some (.p (.bool true), [], ([], [(.p (.int .u8 (k.tmod 8)), .p (.int .u8 2))])) := by kernel_rfl
theorem dd2t (k : Int) : runS Tryz.prog mDdr 60 12 [.p (.int .u8 k), .p (.bool true)] [] ([(4, .p (.int .u8 2))], []) = some (.p (.bool true), [], ([], [(.p (.int .u8 (k.tmod 8)), .p (.int .u8 2))])) := by kernel_rfl
theorem dd5f (k : Int) : runS Tryz.prog mDdr 60 12 [.p (.int .u8 k), .p (.bool false)] [] ([(4, .p (.int .u8 5))], []) = some (.p (.bool true), [], ([], [(.p (.int .u8 (k.tmod 8)), .p (.int .u8 5))])) := by kernel_rfl
theorem dd5t (k : Int) : runS Tryz.prog mDdr 60 12 [.p (.int .u8 k), .p (.bool true)] [] ([(4, .p (.int .u8 5))], []) = some (.p (.bool true), [], ([], [(.p (.int .u8 (k.tmod 8)), .p (.int .u8 5))])) := by kernel_rfl
theorem dd6f (k : Int) : runS Tryz.prog mDdr 60 12 [.p (.int .u8 k), .p (.bool false)] [] ([(4, .p (.int .u8 6))], []) = some (.p (.bool true), [], ([], [(.p (.int .u8 (k.tmod 8)), .p (.int .u8 6))])) := by kernel_rfl
theorem dd6t (k : Int) : runS Tryz.prog mDdr 60 12 [.p (.int .u8 k), .p (.bool true)] [] ([(4, .p (.int .u8 6))], []) = some (.p (.bool true), [], ([], [(.p (.int .u8 (k.tmod 8)), .p (.int .u8 6))])) := by kernel_rfl
end Go.Proofs.YtckfladlgbjnhaaGreat
