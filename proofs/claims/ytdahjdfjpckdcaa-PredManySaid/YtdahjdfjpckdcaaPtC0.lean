/- PredNumbers: names. -/
import Derived.Test.YtdahjdfjpckdcaaPtA
import Derived.Test.YtdahjdfjpckdcaaMtA
namespace Go.Proofs.Ytdahjdfjpckdcaa
open Go Go.Vm
set_option maxRecDepth 100000
def oYs : List AV → List Blk → Option (AV × List Blk) := fun args hp => match args, hp with | [], [] => some (wB true, []) | _, _ => none
theorem of_ys {f : FuncId} (hf : FnOk Try.prog f [] [] (wB true) []) {args : List AV} {hp hp' : List Blk} {r : AV} (h : oYs args hp = some (r, hp')) : FnOk Try.prog f args hp r hp' := by
  unfold oYs at h
  split at h
  · cases h; exact hf
  · cases h
def mPn : Vm.Mode := ⟨fun _ => false, fun f => cond (Nat.beq f 24) (some oYs) (cond (Nat.beq f 21) (some oEval) none)⟩
theorem okPn (hK : FnOk Try.prog 24 [] [] (wB true) []) (f : FuncId) (K : List AV → List Blk → Option (AV × List Blk)) (h : mPn.ov f = some K) (args : List AV) (hp : List Blk) (r : AV) (hp' : List Blk) (k : K args hp = some (r, hp')) : FnOk Try.prog f args hp r hp' := by
  rcases ov_cond h with ⟨rfl, rfl⟩ | h
  · exact of_ys hK k
  rcases ov_cond h with ⟨rfl, rfl⟩ | h
  · exact of_eval k
  cases h
end Go.Proofs.Ytdahjdfjpckdcaa
