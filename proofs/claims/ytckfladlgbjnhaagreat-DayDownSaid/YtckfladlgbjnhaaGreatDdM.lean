/- What is taken as told: contracts; whose arguments are frozen. -/
import Derived.Test.YtckfladlgbjnhaaGreatStG
import Derived.Test.YtckfladlgbjnhaaGreatSsG
import Derived.Test.YtckfladlgbjnhaaGreatVmTh
namespace Go.Proofs.YtckfladlgbjnhaaGreat
open Go Go.Vm
set_option maxRecDepth 100000
abbrev wi (n : Int) : AV := .p (.int .i64 n)
noncomputable def mDdb : Vm.Mode := ⟨byMask 2085924839888879372956218391116360529337473937687324731824753738497044015794201087921547640832, fun f => cond (Nat.beq f 192) (some sumV) (none)⟩
theorem mDdb_ok (f : FuncId) (K : List AV → List Blk → Option (AV × List Blk)) (h : mDdb.ov f = some K) (args : List AV) (hp : List Blk) (r : AV) (hp' : List Blk) (k : K args hp = some (r, hp')) : FnOk Tryz.prog f args hp r hp' := by
  rcases ov_cond h with ⟨rfl, rfl⟩ | h
  · exact Sm.su_con k
  cases h
noncomputable def mDd : Vm.Mode := ⟨byMask 2085924839888879372956218391116360529337473937687324731824753738497044015794201087921547640832, fun f => cond (Nat.beq f 192) (some sumV) (cond (Nat.beq f 103) (some (sortedAny [386, 296])) (cond (Nat.beq f 116) (some (sortedNilV 181)) (none)))⟩
theorem mDd_ok (f : FuncId) (K : List AV → List Blk → Option (AV × List Blk)) (h : mDd.ov f = some K) (args : List AV) (hp : List Blk) (r : AV) (hp' : List Blk) (k : K args hp = some (r, hp')) : FnOk Tryz.prog f args hp r hp' := by
  rcases ov_cond h with ⟨rfl, rfl⟩ | h
  · exact Sm.su_con k
  rcases ov_cond h with ⟨rfl, rfl⟩ | h
  · exact sortedAny_con (T := 3) (by intro q hq; simp only [List.mem_cons, List.mem_nil_iff, or_false] at hq; rcases hq with rfl | rfl; exact Tryz.sortedA_kit; exact Tryz.sortedB_kit) k
  rcases ov_cond h with ⟨rfl, rfl⟩ | h
  · exact sortedNil_con Tryz.sortedS_kit k
  cases h
end Go.Proofs.YtckfladlgbjnhaaGreat
