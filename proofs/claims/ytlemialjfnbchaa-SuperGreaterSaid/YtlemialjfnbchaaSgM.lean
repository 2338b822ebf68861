/- SuperGreater: what is taken as told. -/
import Derived.Test.YtlemialjfnbchaaStS
import Derived.Test.YtlemialjfnbchaaVmTb
import Derived.Test.YtlemialjfnbchaaVmNt
namespace Go.Proofs.Ytlemialjfnbchaa
open Go Go.Vm
set_option maxRecDepth 100000
abbrev wi (n : Int) : AV := .p (.int .i64 n)
/-- closed calls: run at once; the sum is a contract -/
noncomputable def mSg : Vm.Mode := ⟨byMask 10889035741471268770867272818091481890816, fun f => cond (Nat.beq f 90) (some sumV) none⟩
theorem mSg_ok (f : FuncId) (K : List AV → List Blk → Option (AV × List Blk)) (h : mSg.ov f = some K) (args : List AV) (hp : List Blk) (r : AV) (hp' : List Blk) (k : K args hp = some (r, hp')) : FnOk Try.prog f args hp r hp' := by
  rcases ov_cond h with ⟨rfl, rfl⟩ | h
  · exact Sm.su_con k
  cases h
theorem sgknown : Vm.runC Try.prog mSg 100000 36 [] [] = some (.p (.bool true), []) := by kernel_rfl
theorem sgknownOk : FnOk Try.prog 36 [] [] (.p (.bool true)) [] := runC_ok mSg_ok 100000 _ _ _ _ _ sgknown
def sgknownV (args : List AV) (hp : List Blk) : Option (AV × List Blk) := match args, hp with
  | [], [] => some (.p (.bool true), [])
  | _, _ => none
/-- along a path: what lies on it is gone through, all else is run at once -/
noncomputable def mSgr : Vm.Mode := ⟨byMask 10889035741471268770867272818091481890816, fun f => cond (Nat.beq f 90) (some sumV) (cond (Nat.beq f 36) (some sgknownV) (cond (byMask 182687716235963340090517009141467487181079605760 f) (some fun args hp => Vm.runC Try.prog mSg 100000 f args hp) none))⟩
theorem okSgr (f : FuncId) (K : List AV → List Blk → Option (AV × List Blk)) (h : mSgr.ov f = some K) (args : List AV) (hp : List Blk) (r : AV) (hp' : List Blk) (k : K args hp = some (r, hp')) : FnOk Try.prog f args hp r hp' := by
  rcases ov_cond h with ⟨rfl, rfl⟩ | h
  · exact Sm.su_con k
  rcases ov_cond h with ⟨rfl, rfl⟩ | h
  · unfold sgknownV at k
    split at k
    · cases k; exact sgknownOk
    · cases k
  cases hm : byMask 182687716235963340090517009141467487181079605760 f with
  | false => rw [hm] at h; cases h
  | true =>
    rw [hm] at h
    cases h
    exact runC_ok mSg_ok 100000 _ _ _ _ _ k
end Go.Proofs.Ytlemialjfnbchaa
