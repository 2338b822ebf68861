/- The least and the greatest of a row of numbers: names. -/
import Derived.Test.YtdahjdfjpckdcaaLtC
namespace Go.Proofs.Ytdahjdfjpckdcaa
open Go Go.Vm
set_option maxRecDepth 100000
noncomputable def mi : Code := bodyOf Try.f40
noncomputable def miB : Code := cI (cI (cR (cL (cN 3 mi))))
theorem mi_eq : mi = seqs (first 3 mi) (.seq (.seq (cL (cL (cN 3 mi))) (.block 0 (.loop miB))) (seqs [cL (cN 4 mi)] .ret)) := by kernel_rfl
theorem miB_eq : miB = seqs (first 2 miB) (cN 2 miB) := by kernel_rfl
noncomputable def mx : Code := bodyOf Try.f42
noncomputable def mxB : Code := cI (cI (cR (cL (cN 3 mx))))
theorem mx_eq : mx = seqs (first 3 mx) (.seq (.seq (cL (cL (cN 3 mx))) (.block 0 (.loop mxB))) (seqs [cL (cN 4 mx)] .ret)) := by kernel_rfl
theorem mxB_eq : mxB = seqs (first 2 mxB) (cN 2 mxB) := by kernel_rfl
abbrev fnC : AV := .p (.func (.func 41) #[] #[])
theorem resV_cell {P : Program} {t : Tr} {hp : List Blk} {i : Nat} {ty : TypeId} {x : AV} (h : t.get i = x) : resV P t hp [.cell i ty] = (match cellsAt hp x with | some (xs, k) => (match ld P ty xs k with | some v => some [v] | none => none) | none => none) := by
  subst h
  simp only [resV]
  cases cellsAt hp (t.get i) with
  | none => rfl
  | some q => rfl
end Go.Proofs.Ytdahjdfjpckdcaa
