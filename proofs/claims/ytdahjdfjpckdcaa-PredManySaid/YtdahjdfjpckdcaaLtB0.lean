/- Code in pieces; checking a column's values: names. -/
import Derived.Test.YtdahjdfjpckdcaaLtA
namespace Go.Proofs.Ytdahjdfjpckdcaa
open Go Go.Vm
set_option maxRecDepth 100000
def cL : Code → Code | .seq a _ => a | c => c
def cR : Code → Code | .seq _ b => b | c => c
def cN : Nat → Code → Code | 0, c => c | n + 1, c => cN n (cR c)
def cI : Code → Code | .block _ c => c | .loop c => c | c => c
def bodyOf (f : Func) : Code := match f.body with | some c => c | none => .skip
def first (n : Nat) (c : Code) : List Code := (List.range n).map fun i => cL (cN i c)
noncomputable def ck : Code := bodyOf Try.f38
noncomputable def ckB : Code := cI (cI (cR (cL (cN 3 ck))))
theorem ck_eq : ck = seqs (first 3 ck) (.seq (.seq (cL (cL (cN 3 ck))) (.block 0 (.loop ckB))) (seqs [cL (cN 4 ck)] .ret)) := by kernel_rfl
theorem ckB_eq : ckB = seqs (first 3 ckB) (cN 3 ckB) := by kernel_rfl
noncomputable abbrev gV := orV Try.prog mC 60
noncomputable abbrev gS := orS Try.prog mC 60
abbrev bC' (cs : List AV) : Blk := { cells := cs, esz := 0, gen := 0, row := false, ro := false }
end Go.Proofs.Ytdahjdfjpckdcaa
