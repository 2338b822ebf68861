/- What a comparison tells of a row of one value: names. -/
import Derived.Test.YtdahjdfjpckdcaaKtF0
namespace Go.Proofs.Ytdahjdfjpckdcaa
open Go Go.Vm
def hldI (op c : Int) : Bool :=
  if op = 1 then decide (c = 0) else if op = 2 then decide (c ≠ 0) else if op = 3 then decide (c < 0) else if op = 4 then decide (c ≤ 0) else if op = 5 then decide (c > 0) else decide (c ≥ 0)
def evN (op c : Int) : Nat := cond (hldI op c) 1 0
def cases2 : List (Int × Int) := ops6.flatMap fun o => cs3.map fun c => (o, c)
theorem mem2 {op c : Int} (h1 : 1 ≤ op) (h2 : op ≤ 6) (hc : c = -1 ∨ c = 0 ∨ c = 1) : (op, c) ∈ cases2 := by
  have ho : op ∈ ops6 := by
    have : op = 1 ∨ op = 2 ∨ op = 3 ∨ op = 4 ∨ op = 5 ∨ op = 6 := by omega
    simp [ops6, this]
  simp only [cases2, List.mem_flatMap, List.mem_map]
  exact ⟨op, ho, c, by simpa [cs3] using hc, rfl⟩
def elOf : List AV → Option (Option Int)
  | [.p (.int .i64 (.ofNat 1)), .p (.int .i64 n), .p (.string s), .p (.complex .f64 0 0)] => cond s.data.toList.isEmpty (some (some n)) none
  | [.p (.int .i64 (.ofNat 0)), .p (.int .i64 (.ofNat 0)), .p (.string s), .p (.complex .f64 0 0)] => cond s.data.toList.isEmpty (some none) none
  | _ => none
end Go.Proofs.Ytdahjdfjpckdcaa
