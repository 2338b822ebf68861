/- StatNumbers: names. -/
import Derived.Test.YtdahjdfjpckdcaaLtH
namespace Go.Proofs.Ytdahjdfjpckdcaa
open Go Go.Vm
set_option maxRecDepth 100000
def oTrueN : List AV → List Blk → Option (AV × List Blk)
  | [], [] => some (wB true, [])
  | _, _ => none
theorem of_trueN {f : FuncId} (hf : FnOk Try.prog f [] [] (wB true) []) {args : List AV} {hp hp' : List Blk} {r : AV} (h : oTrueN args hp = some (r, hp')) : FnOk Try.prog f args hp r hp' := by
  unfold oTrueN at h
  split at h
  · cases h; exact hf
  · cases h
def mZ (A : OvF) : Vm.Mode := ⟨fun _ => false, fun f => cond (Nat.beq f 22) (some oTrueN) (cond (Nat.beq f 17) (some A) (cond (Nat.beq f 41) (some oCmp) none))⟩
noncomputable abbrev zV (A : OvF) := orV Try.prog (mZ A) 60
noncomputable abbrev zQ (A : OvF) := orS Try.prog (mZ A) 60
noncomputable def se : Code := bodyOf Try.f6
noncomputable def sn : Code := cI (cI (cR (cL (cN 5 se))))
theorem se_eq : se = seqs (first 5 se) (.seq (.seq (cL (cL (cN 5 se))) (.block 0 (.loop sn))) (seqs (first 4 (cN 6 se)) .ret)) := by kernel_rfl
theorem sn_eq : sn = seqs (first 2 sn) (cN 2 sn) := by kernel_rfl
abbrev vI4 (n : Int) : AV := .p (.int .i32 n)
end Go.Proofs.Ytdahjdfjpckdcaa
