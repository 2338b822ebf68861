/-
  No cell of these rows narrows 'for every input' (looked for: loops, veiled, ifaces, maps, wideKeys, modest, calm, conditions, laid).
  DERIVED. THE GIVEN ROWS OF THIS SEAT. 6 by the template 'for every input the law returns true; each argument reads behind the call as it read before'; 0 by the template 'total and deterministic' (their statements: YtnbnheifgoipnaaTotals.lean).
  GIVEN WITH THE SEED: the statements are not yours to turn. If you find one false, say at which input.
  Laid BY PROGRAM, IN A SANDBOX (cutbox-rows.mjs): the forced cells as the released guide's own fill.sh prints them over the translation 74821f5ea502d3bc… (all of the seat's roots in one cut). By AI agents, Wed Nov 11 2026. No macro, syntax, notation, axiom, sorry.
-/
import Derived.Test.YtnbnheifgoipnaaChecked
import GoSem.Claim
import GoSem.ClaimJoined
import GoSem.ClaimMapViews
import Derived.JoinedTies
import Derived.KernelRfl
namespace Go.Proofs.Ytnbnheifgoipnaa
/- THE CELL 'sum', in the pinned program and in every row, IS THE sha256 OF THE DUMP (.gsa) THAT YtnbnheifgoipnaaProg.lean LOADS. Nothing in Lean hashes anything: it is a label: what it is worth is what the hold of that sum in a sandbox is worth. -/
noncomputable def Try.pinned : Pinned := { name := "ytnbnheifgoipnaa", sum := "74821f5ea502d3bc6694ab5b7f9f14bba1e3b821b79f3a2e11de42ccd1b26a4a", checked := Try.checked }
namespace Rows
def none {H : Type} : Left H := { results := [], args := [] }

/-- 'norialaw22.PassAny': WHATEVER THE INPUT: true; the input reads as it did. -/
def passAnySpec : ChangeSpec := { name := "passAny", fn := fun _ => fun
  | [d] => { results := [.lit (.bool true)], args := [d] }
  | _ => none }
def passAnyRow : OpenClaim := { program := "ytnbnheifgoipnaa", sum := "74821f5ea502d3bc6694ab5b7f9f14bba1e3b821b79f3a2e11de42ccd1b26a4a", func := "noria/norialaw22.PassAny", spec := "passAny", apart := false }
def PassAnySaid : Prop := passAnyRow.holds Try.pinned (OpenSpec.ofChange passAnySpec)

/-- ITS FALSE NEIGHBOUR: 'it returns false'. Refute it at one input. -/
def passAnyWrong : ChangeSpec := { name := "passAny", fn := fun _ => fun
  | [d] => { results := [.lit (.bool false)], args := [d] }
  | _ => none }
def PassAnyWrongFalsely : Prop := passAnyRow.holds Try.pinned (OpenSpec.ofChange passAnyWrong)

/-- 'norialaw22.PassShares': WHATEVER THE INPUT: true; the input reads as it did. -/
def passSharesSpec : ChangeSpec := { name := "passShares", fn := fun _ => fun
  | [d1, d2] => { results := [.lit (.bool true)], args := [d1, d2] }
  | _ => none }
def passSharesRow : OpenClaim := { program := "ytnbnheifgoipnaa", sum := "74821f5ea502d3bc6694ab5b7f9f14bba1e3b821b79f3a2e11de42ccd1b26a4a", func := "noria/norialaw22.PassShares", spec := "passShares", apart := false }
def PassSharesSaid : Prop := passSharesRow.holds Try.pinned (OpenSpec.ofChange passSharesSpec)

/-- ITS FALSE NEIGHBOUR: 'it returns false'. Refute it at one input. -/
def passSharesWrong : ChangeSpec := { name := "passShares", fn := fun _ => fun
  | [d1, d2] => { results := [.lit (.bool false)], args := [d1, d2] }
  | _ => none }
def PassSharesWrongFalsely : Prop := passSharesRow.holds Try.pinned (OpenSpec.ofChange passSharesWrong)

/-- 'norialaw22.PassEach': WHATEVER THE INPUT: true; the input reads as it did. -/
def passEachSpec : ChangeSpec := { name := "passEach", fn := fun _ => fun
  | [d1, d2] => { results := [.lit (.bool true)], args := [d1, d2] }
  | _ => none }
def passEachRow : OpenClaim := { program := "ytnbnheifgoipnaa", sum := "74821f5ea502d3bc6694ab5b7f9f14bba1e3b821b79f3a2e11de42ccd1b26a4a", func := "noria/norialaw22.PassEach", spec := "passEach", apart := false }
def PassEachSaid : Prop := passEachRow.holds Try.pinned (OpenSpec.ofChange passEachSpec)

/-- ITS FALSE NEIGHBOUR: 'it returns false'. Refute it at one input. -/
def passEachWrong : ChangeSpec := { name := "passEach", fn := fun _ => fun
  | [d1, d2] => { results := [.lit (.bool false)], args := [d1, d2] }
  | _ => none }
def PassEachWrongFalsely : Prop := passEachRow.holds Try.pinned (OpenSpec.ofChange passEachWrong)

/-- 'norialaw21.SkipTurns': WHATEVER THE INPUT: true; the input reads as it did. -/
def skipTurnsSpec : ChangeSpec := { name := "skipTurns", fn := fun _ => fun
  | [d1, d2, d3, d4, d5] => { results := [.lit (.bool true)], args := [d1, d2, d3, d4, d5] }
  | _ => none }
def skipTurnsRow : OpenClaim := { program := "ytnbnheifgoipnaa", sum := "74821f5ea502d3bc6694ab5b7f9f14bba1e3b821b79f3a2e11de42ccd1b26a4a", func := "noria/norialaw21.SkipTurns", spec := "skipTurns", inPlace := ["math.archTrunc", "math.Float64bits", "math.Float64frombits"], unfollowed := true, recurses := true, apart := false }
def SkipTurnsSaid : Prop := skipTurnsRow.holds Try.pinned (OpenSpec.ofChange skipTurnsSpec)

/-- ITS FALSE NEIGHBOUR: 'it returns false'. Refute it at one input. -/
def skipTurnsWrong : ChangeSpec := { name := "skipTurns", fn := fun _ => fun
  | [d1, d2, d3, d4, d5] => { results := [.lit (.bool false)], args := [d1, d2, d3, d4, d5] }
  | _ => none }
def SkipTurnsWrongFalsely : Prop := skipTurnsRow.holds Try.pinned (OpenSpec.ofChange skipTurnsWrong)

/-- 'norialaw21.SkipExact': WHATEVER THE INPUT: true; the input reads as it did. -/
def skipExactSpec : ChangeSpec := { name := "skipExact", fn := fun _ => fun
  | [d1, d2, d3, d4, d5] => { results := [.lit (.bool true)], args := [d1, d2, d3, d4, d5] }
  | _ => none }
def skipExactRow : OpenClaim := { program := "ytnbnheifgoipnaa", sum := "74821f5ea502d3bc6694ab5b7f9f14bba1e3b821b79f3a2e11de42ccd1b26a4a", func := "noria/norialaw21.SkipExact", spec := "skipExact", inPlace := ["math.archTrunc", "math.Float64bits", "math.Float64frombits"], unfollowed := true, recurses := true, apart := false }
def SkipExactSaid : Prop := skipExactRow.holds Try.pinned (OpenSpec.ofChange skipExactSpec)

/-- ITS FALSE NEIGHBOUR: 'it returns false'. Refute it at one input. -/
def skipExactWrong : ChangeSpec := { name := "skipExact", fn := fun _ => fun
  | [d1, d2, d3, d4, d5] => { results := [.lit (.bool false)], args := [d1, d2, d3, d4, d5] }
  | _ => none }
def SkipExactWrongFalsely : Prop := skipExactRow.holds Try.pinned (OpenSpec.ofChange skipExactWrong)

/-- 'norialaw9.StatNumbers': WHATEVER THE INPUT: true; the input reads as it did. -/
def statNumbersSpec : ChangeSpec := { name := "statNumbers", fn := fun _ => fun
  | [d1, d2, d3] => { results := [.lit (.bool true)], args := [d1, d2, d3] }
  | _ => none }
def statNumbersRow : OpenClaim := { program := "ytnbnheifgoipnaa", sum := "74821f5ea502d3bc6694ab5b7f9f14bba1e3b821b79f3a2e11de42ccd1b26a4a", func := "noria/norialaw9.StatNumbers", spec := "statNumbers", inPlace := ["math.archTrunc", "math.Float64bits", "math.Float64frombits"], unfollowed := true, recurses := true, apart := false }
def StatNumbersSaid : Prop := statNumbersRow.holds Try.pinned (OpenSpec.ofChange statNumbersSpec)

/-- ITS FALSE NEIGHBOUR: 'it returns false'. Refute it at one input. -/
def statNumbersWrong : ChangeSpec := { name := "statNumbers", fn := fun _ => fun
  | [d1, d2, d3] => { results := [.lit (.bool false)], args := [d1, d2, d3] }
  | _ => none }
def StatNumbersWrongFalsely : Prop := statNumbersRow.holds Try.pinned (OpenSpec.ofChange statNumbersWrong)

/- THE SECOND FORM. 'bulk': how many values and letters a reading holds, each counted each time it is reached (what is shared counts as often as it is met; a slice's spare places count too). A statement '..UptoSaid' is the law's where the arguments, and the package variables that the reading takes, are together of bulk at most 1048576: NARROWER than '..Said'. Prove '..Said' where nothing that the law and all that it calls make is longer than what came in: it says more and counts as full. Else prove '..UptoSaid'. A law counts once. -/
mutual
def uptoBulk {H : Type} : DataW H → Nat
  | .lit (.string bytes) => bytes.length + 1
  | .lit _ => 1
  | .nil => 1
  | .ptr d => uptoBulk d + 1
  | .slice elems spare => uptoBulkAll elems + uptoBulkAll spare + 1
  | .agg parts => uptoBulkAll parts + 1
  | .iface _ d => uptoBulk d + 1
  | .map entries => uptoBulkEntries entries + 1
  | .held _ => 1
def uptoBulkAll {H : Type} : List (DataW H) → Nat
  | [] => 0
  | d :: r => uptoBulk d + uptoBulkAll r
def uptoBulkEntries {H : Type} : List (Lit × DataW H) → Nat
  | [] => 0
  | x :: r => uptoBulkEntry x + uptoBulkEntries r
def uptoBulkEntry {H : Type} : Lit × DataW H → Nat
  | (.string bytes, d) => bytes.length + uptoBulk d + 1
  | (_, d) => uptoBulk d + 1
 end
def uptoSmall : (H : Type) → List (DataW H) → Bool := fun _ ds => decide (uptoBulkAll ds ≤ 1048576)
def OpenSpec.upto (s : _root_.Go.ChangeSpec) : _root_.Go.OpenSpec := { _root_.Go.OpenSpec.ofChange s with cond := some uptoSmall }

/-- 'norialaw22.PassAny', WHERE WHAT IT READS IS OF BULK AT MOST 1048576: true; the input reads as it did. -/
def passAnyUptoRow : OpenClaim := { program := "ytnbnheifgoipnaa", sum := "74821f5ea502d3bc6694ab5b7f9f14bba1e3b821b79f3a2e11de42ccd1b26a4a", func := "noria/norialaw22.PassAny", spec := "passAny", apart := false, narrowed := true }
def PassAnyUptoSaid : Prop := passAnyUptoRow.holds Try.pinned (OpenSpec.upto passAnySpec)

/-- 'norialaw22.PassShares', WHERE WHAT IT READS IS OF BULK AT MOST 1048576: true; the input reads as it did. -/
def passSharesUptoRow : OpenClaim := { program := "ytnbnheifgoipnaa", sum := "74821f5ea502d3bc6694ab5b7f9f14bba1e3b821b79f3a2e11de42ccd1b26a4a", func := "noria/norialaw22.PassShares", spec := "passShares", apart := false, narrowed := true }
def PassSharesUptoSaid : Prop := passSharesUptoRow.holds Try.pinned (OpenSpec.upto passSharesSpec)

/-- 'norialaw22.PassEach', WHERE WHAT IT READS IS OF BULK AT MOST 1048576: true; the input reads as it did. -/
def passEachUptoRow : OpenClaim := { program := "ytnbnheifgoipnaa", sum := "74821f5ea502d3bc6694ab5b7f9f14bba1e3b821b79f3a2e11de42ccd1b26a4a", func := "noria/norialaw22.PassEach", spec := "passEach", apart := false, narrowed := true }
def PassEachUptoSaid : Prop := passEachUptoRow.holds Try.pinned (OpenSpec.upto passEachSpec)

/-- 'norialaw21.SkipTurns', WHERE WHAT IT READS IS OF BULK AT MOST 1048576: true; the input reads as it did. -/
def skipTurnsUptoRow : OpenClaim := { program := "ytnbnheifgoipnaa", sum := "74821f5ea502d3bc6694ab5b7f9f14bba1e3b821b79f3a2e11de42ccd1b26a4a", func := "noria/norialaw21.SkipTurns", spec := "skipTurns", inPlace := ["math.archTrunc", "math.Float64bits", "math.Float64frombits"], unfollowed := true, recurses := true, apart := false, narrowed := true }
def SkipTurnsUptoSaid : Prop := skipTurnsUptoRow.holds Try.pinned (OpenSpec.upto skipTurnsSpec)

/-- 'norialaw21.SkipExact', WHERE WHAT IT READS IS OF BULK AT MOST 1048576: true; the input reads as it did. -/
def skipExactUptoRow : OpenClaim := { program := "ytnbnheifgoipnaa", sum := "74821f5ea502d3bc6694ab5b7f9f14bba1e3b821b79f3a2e11de42ccd1b26a4a", func := "noria/norialaw21.SkipExact", spec := "skipExact", inPlace := ["math.archTrunc", "math.Float64bits", "math.Float64frombits"], unfollowed := true, recurses := true, apart := false, narrowed := true }
def SkipExactUptoSaid : Prop := skipExactUptoRow.holds Try.pinned (OpenSpec.upto skipExactSpec)

/-- 'norialaw9.StatNumbers', WHERE WHAT IT READS IS OF BULK AT MOST 1048576: true; the input reads as it did. -/
def statNumbersUptoRow : OpenClaim := { program := "ytnbnheifgoipnaa", sum := "74821f5ea502d3bc6694ab5b7f9f14bba1e3b821b79f3a2e11de42ccd1b26a4a", func := "noria/norialaw9.StatNumbers", spec := "statNumbers", inPlace := ["math.archTrunc", "math.Float64bits", "math.Float64frombits"], unfollowed := true, recurses := true, apart := false, narrowed := true }
def StatNumbersUptoSaid : Prop := statNumbersUptoRow.holds Try.pinned (OpenSpec.upto statNumbersSpec)

end Rows
end Go.Proofs.Ytnbnheifgoipnaa
