/- The contract of comparing, in force. -/
import Derived.Test.YtdahjdfjpckdcaaKtB
namespace Go.Proofs.Ytdahjdfjpckdcaa
open Go Go.Vm
def mC : Vm.Mode := ⟨fun _ => false, fun f => cond (Nat.beq f 41) (some oCmp) none⟩
theorem okC (f : FuncId) (F : List AV → List Blk → Option (AV × List Blk)) (h : mC.ov f = some F) (args : List AV) (hp : List Blk) (r : AV) (hp' : List Blk) (k : F args hp = some (r, hp')) : FnOk Try.prog f args hp r hp' := by
  rcases ov_cond h with ⟨rfl, rfl⟩ | h
  · exact of_cmp k
  cases h
end Go.Proofs.Ytdahjdfjpckdcaa
