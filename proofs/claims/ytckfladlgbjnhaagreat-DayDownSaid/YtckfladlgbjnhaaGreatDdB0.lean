/- DayDown: its runs at n % 8 = 0, 3, 4 and 7. -/
import Derived.Test.YtckfladlgbjnhaaGreatDdA
namespace Go.Proofs.YtckfladlgbjnhaaGreat
open Go Go.Vm
set_option maxRecDepth 100000
theorem dd0f (k : Int) : runS Tryz.prog mDdr 60 12 [.p (.int .u8 k), .p (.bool false)] [] ([(4, .p (.int .u8 0))], []) = some (.p (.bool true), [], ([], [(.p (.int .u8 (k.tmod 8)), .p (.int .u8 0))])) := by kernel_rfl
theorem dd0t (k : Int) : runS Tryz.prog mDdr 60 12 [.p (.int .u8 k), .p (.bool true)] [] ([(4, .p (.int .u8 0))], []) = some (.p (.bool true), [], ([], [(.p (.int .u8 (k.tmod 8)), .p (.int .u8 0))])) := by kernel_rfl
theorem dd3f (k : Int) : runS Tryz.prog mDdr 60 12 [.p (.int .u8 k), .p (.bool false)] [] ([(4, .p (.int .u8 3))], []) = some (.p (.bool true), [], ([], [(.p (.int .u8 (k.tmod 8)), .p (.int .u8 3))])) := by kernel_rfl
theorem dd3t (k : Int) : runS Tryz.prog mDdr 60 12 [.p (.int .u8 k), .p (.bool true)] [] ([(4, .p (.int .u8 3))], []) = some (.p (.bool true), [], ([], [(.p (.int .u8 (k.tmod 8)), .p (.int .u8 3))])) := by kernel_rfl
theorem dd4f (k : Int) : runS Tryz.prog mDdr 60 12 [.p (.int .u8 k), .p (.bool false)] [] ([(4, .p (.int .u8 4))], []) = some (.p (.bool true), [], ([], [(.p (.int .u8 (k.tmod 8)), .p (.int .u8 4))])) := by kernel_rfl
theorem dd4t (k : Int) : runS Tryz.prog mDdr 60 12 [.p (.int .u8 k), .p (.bool true)] [] ([(4, .p (.int .u8 4))], []) = some (.p (.bool true), [], ([], [(.p (.int .u8 (k.tmod 8)), .p (.int .u8 4))])) := by kernel_rfl
theorem dd7f (k : Int) : runS Tryz.prog mDdr 60 12 [.p (.int .u8 k), .p (.bool false)] [] ([(4, .p (.int .u8 7))], []) = some (.p (.bool true), [], ([], [(.p (.int .u8 (k.tmod 8)), .p (.int .u8 7))])) := by kernel_rfl
theorem dd7t (k : Int) : runS Tryz.prog mDdr 60 12 [.p (.int .u8 k), .p (.bool true)] [] ([(4, .p (.int .u8 7))], []) = some (.p (.bool true), [], ([], [(.p (.int .u8 (k.tmod 8)), .p (.int .u8 7))])) := by kernel_rfl
end Go.Proofs.YtckfladlgbjnhaaGreat
