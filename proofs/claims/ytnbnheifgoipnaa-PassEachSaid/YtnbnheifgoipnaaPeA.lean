/- PassEach: its code in pieces. -/
import Derived.Test.YtnbnheifgoipnaaPaA
import Derived.Test.YtnbnheifgoipnaaVmK
namespace Go.Proofs.Ytnbnheifgoipnaa
open Go Go.Vm
set_option maxRecDepth 100000
def sL : Code → Code | .seq a _ => a | c => c
def sR : Code → Code | .seq _ b => b | c => c
def inB : Code → Code | .block _ c => c | .loop c => c | c => c
noncomputable def eB : Code := match Try.f5.body with | some c => c | none => .skip
noncomputable def e5 : Code := sR (sR (sR (sR (sR eB))))
noncomputable def eL : Code := inB (inB (sR (sL e5)))
theorem eB_eq : eB = seqs [sL eB, sL (sR eB), sL (sR (sR eB)), sL (sR (sR (sR eB))), sL (sR (sR (sR (sR eB))))] e5 := by kernel_rfl
theorem e5_eq : e5 = .seq (.seq (sL (sL e5)) (.block 0 (.loop eL))) (seqs [sL (sR e5), sL (sR (sR e5))] .ret) := by kernel_rfl
end Go.Proofs.Ytnbnheifgoipnaa
