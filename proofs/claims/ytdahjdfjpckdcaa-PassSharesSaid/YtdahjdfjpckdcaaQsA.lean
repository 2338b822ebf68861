/- PassShares: its code in pieces. -/
import Derived.Test.YtdahjdfjpckdcaaVmM
import Derived.KernelRfl
import Derived.Test.YtdahjdfjpckdcaaProg
namespace Go.Proofs.Ytdahjdfjpckdcaa
open Go Go.Vm
set_option maxRecDepth 100000
abbrev vT : AV := .p (.bool true)
abbrev vF : AV := .p (.bool false)
abbrev vB (p : Prop) [Decidable p] : AV := .p (.bool (decide p))
abbrev vN (n : Int) : AV := .p (.int .i64 n)
abbrev vU (n : Int) : AV := .p (.int .u8 n)
def m0 : Vm.Mode := ⟨fun _ => false, fun _ => none⟩
def oTrue : List AV → List Blk → Option (AV × List Blk)
  | [], [] => some (vT, [])
  | _, _ => none
def sL : Code → Code | .seq a _ => a | c => c
def sR : Code → Code | .seq _ b => b | c => c
def inB : Code → Code | .block _ c => c | .loop c => c | c => c
noncomputable def sB : Code := match Try.f3.body with | some c => c | none => .skip
noncomputable def s6 : Code := sR (sR (sR (sR (sR (sR sB)))))
noncomputable def sLp : Code := inB (inB (sR (sL s6)))
theorem sB_eq : sB = seqs [sL sB, sL (sR sB), sL (sR (sR sB)), sL (sR (sR (sR sB))), sL (sR (sR (sR (sR sB)))), sL (sR (sR (sR (sR (sR sB)))))] s6 := by kernel_rfl
theorem s6_eq : s6 = .seq (.seq (sL (sL s6)) (.block 0 (.loop sLp))) (seqs [sL (sR s6)] .ret) := by kernel_rfl
def mk1 : Vm.Mode := ⟨fun _ => false, fun f => cond (Nat.beq f 11) (some oTrue) none⟩
abbrev pB (s h : Bool) (l : Int) : Blk := { cells := [.p (.bool s), .p (.bool h), vN l], esz := 0, gen := 0, row := false, ro := false }
end Go.Proofs.Ytdahjdfjpckdcaa
