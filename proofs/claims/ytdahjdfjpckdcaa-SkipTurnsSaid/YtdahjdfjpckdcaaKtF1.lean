/- SkipTurns: names for its paths. -/
import Derived.Test.YtdahjdfjpckdcaaKtF0
namespace Go.Proofs.Ytdahjdfjpckdcaa
open Go Go.Vm
abbrev keepT : List Nat := [14, 15, 16, 17, 18, 19, 20, 21]
abbrev bC (cs : List AV) : Blk := { cells := cs, esz := 0, gen := 0, row := false, ro := false }
def seven : List Nat := [1, 2, 3, 4, 5, 6, 7]
def pairs7 : List (Nat × Nat) := seven.flatMap fun a => seven.map fun b => (a, b)
theorem mem7 {a b : Nat} (h : a < 8) (h' : 0 < a) (k : b < 8) (k' : 0 < b) : (a, b) ∈ pairs7 := by
  have h1 : a = 1 ∨ a = 2 ∨ a = 3 ∨ a = 4 ∨ a = 5 ∨ a = 6 ∨ a = 7 := by omega
  have h2 : b = 1 ∨ b = 2 ∨ b = 3 ∨ b = 4 ∨ b = 5 ∨ b = 6 ∨ b = 7 := by omega
  simp only [pairs7, List.mem_flatMap, List.mem_map]
  exact ⟨a, by simpa [seven] using h1, b, by simpa [seven] using h2, rfl⟩
noncomputable abbrev fV := orV Try.prog mF 60
noncomputable abbrev fS := orS Try.prog mF 60
end Go.Proofs.Ytdahjdfjpckdcaa
