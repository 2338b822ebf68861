/- What is taken as told: contracts; whose arguments are frozen. -/
import Derived.Test.YtlemialjfnbchaaGreatStT
import Derived.Test.YtlemialjfnbchaaGreatSsT
import Derived.Test.YtlemialjfnbchaaGreatPnT
import Derived.Test.YtlemialjfnbchaaGreatDfG
import Derived.Test.YtlemialjfnbchaaGreatVmTh

namespace Go.Proofs.YtlemialjfnbchaaGreat
open Go Go.Vm
set_option maxRecDepth 100000
abbrev wi (n : Int) : AV := .p (.int .i64 n)
noncomputable def mSl : Vm.Mode := ⟨byMask 7957915460491896578200475743441276610563910253719588529489187039003555667394915500818432, fun f => cond (Nat.beq f 186) (some sumV) (cond (Nat.beq f 190) (some sumV) (cond (Nat.beq f 76) (some (sortedAny [140, 183, 184])) (cond (Nat.beq f 25) (some pinnedV) (cond (Nat.beq f 111) (some Df.delV) (none)))))⟩
theorem mSl_ok (f : FuncId) (K : List AV → List Blk → Option (AV × List Blk)) (h : mSl.ov f = some K) (args : List AV) (hp : List Blk) (r : AV) (hp' : List Blk) (k : K args hp = some (r, hp')) : FnOk Tryz.prog f args hp r hp' := by
  rcases ov_cond h with ⟨rfl, rfl⟩ | h
  · exact Sm.su_con k
  rcases ov_cond h with ⟨rfl, rfl⟩ | h
  · exact Sm.sw_con k
  rcases ov_cond h with ⟨rfl, rfl⟩ | h
  · exact sortedAny_con (T := 3) (by intro q hq; simp only [List.mem_cons, List.mem_nil_iff, or_false] at hq; rcases hq with rfl | rfl | rfl; exact Tryz.sortedA_kit; exact Tryz.sortedB_kit; exact Tryz.sortedC_kit) k
  rcases ov_cond h with ⟨rfl, rfl⟩ | h
  · exact Pn.pinned_con k
  rcases ov_cond h with ⟨rfl, rfl⟩ | h
  · exact Df.del_con k
  cases h
end Go.Proofs.YtlemialjfnbchaaGreat
