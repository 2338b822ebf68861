/- What is taken as told: contracts; whose arguments are frozen. -/
import Derived.Test.YtckfladlgbjnhaaGreatStG
import Derived.Test.YtckfladlgbjnhaaGreatVmTh
namespace Go.Proofs.YtckfladlgbjnhaaGreat
open Go Go.Vm
set_option maxRecDepth 100000
abbrev wi (n : Int) : AV := .p (.int .i64 n)
noncomputable def mWf : Vm.Mode := ⟨byMask 2085924839888879372956218391116360529337473937687324731824753738497044015794777548673851064320, fun f => cond (Nat.beq f 192) (some sumV) (none)⟩
theorem mWf_ok (f : FuncId) (K : List AV → List Blk → Option (AV × List Blk)) (h : mWf.ov f = some K) (args : List AV) (hp : List Blk) (r : AV) (hp' : List Blk) (k : K args hp = some (r, hp')) : FnOk Tryz.prog f args hp r hp' := by
  rcases ov_cond h with ⟨rfl, rfl⟩ | h
  · exact Sm.su_con k
  cases h
end Go.Proofs.YtckfladlgbjnhaaGreat
