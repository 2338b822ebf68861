/- DayUnder: its runs at steps % 8 = 1. -/
import Derived.Test.YtckfladlgbjnhaaGreatDuA
namespace Go.Proofs.YtckfladlgbjnhaaGreat
open Go Go.Vm
set_option maxRecDepth 100000
theorem du1f (k : Int) : runS Tryz.prog mDur 60 13 [.p (.int .u8 k), .p (.bool false)] [] ([(4, .p (.int .u8 1))], []) = some (.p (.bool true), [], ([], [(.p (.int .u8 (k.tmod 8)), .p (.int .u8 1))])) := by kernel_rfl
theorem du1t (k : Int) : runS Tryz.prog mDur 60 13 [.p (.int .u8 k), .p (.bool true)] [] ([(4, .p (.int .u8 1))], []) = some (.p (.bool true), [], ([], [(.p (.int .u8 (k.tmod 8)), .p (.int .u8 1))])) := by kernel_rfl
end Go.Proofs.YtckfladlgbjnhaaGreat
