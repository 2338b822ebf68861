/-
  No cell of these rows narrows 'for every input' (looked for: loops, veiled, ifaces, maps, wideKeys, modest, calm, conditions, laid).
  DERIVED. THE GIVEN ROWS OF THIS SEAT. 8 by the template 'for every input the law returns true; each argument reads behind the call as it read before'; 0 by the template 'total and deterministic' (their statements: YtdahjdfjpckdcaaTotals.lean).
  GIVEN WITH THE SEED: the statements are not yours to turn. If you find one false, say at which input.
  Laid BY PROGRAM, IN A SANDBOX (cutbox-rows.mjs): the forced cells as the released guide's own fill.sh prints them over the translation 0c630f726b813fdc… (all of the seat's roots in one cut). By AI agents, Wed Nov 11 2026. No macro, syntax, notation, axiom, sorry.
-/
import Derived.Test.YtdahjdfjpckdcaaChecked
import GoSem.Claim
import GoSem.ClaimJoined
import GoSem.ClaimMapViews
import Derived.JoinedTies
import Derived.KernelRfl
namespace Go.Proofs.Ytdahjdfjpckdcaa
/- THE CELL 'sum', in the pinned program and in every row, IS THE sha256 OF THE DUMP (.gsa) THAT YtdahjdfjpckdcaaProg.lean LOADS. Nothing in Lean hashes anything: it is a label: what it is worth is what the hold of that sum in a sandbox is worth. -/
noncomputable def Try.pinned : Pinned := { name := "ytdahjdfjpckdcaa", sum := "0c630f726b813fdcc18a4f22862505bda6a7477e815f37b408523eb43a10f307", checked := Try.checked }
namespace Rows
def none {H : Type} : Left H := { results := [], args := [] }

/-- 'norialaw22.PassShares': WHATEVER THE INPUT: true; the input reads as it did. -/
def passSharesSpec : ChangeSpec := { name := "passShares", fn := fun _ => fun
  | [d1, d2] => { results := [.lit (.bool true)], args := [d1, d2] }
  | _ => none }
def passSharesRow : OpenClaim := { program := "ytdahjdfjpckdcaa", sum := "0c630f726b813fdcc18a4f22862505bda6a7477e815f37b408523eb43a10f307", func := "noria/norialaw22.PassShares", spec := "passShares", apart := false }
def PassSharesSaid : Prop := passSharesRow.holds Try.pinned (OpenSpec.ofChange passSharesSpec)

/-- ITS FALSE NEIGHBOUR: 'it returns false'. Refute it at one input. -/
def passSharesWrong : ChangeSpec := { name := "passShares", fn := fun _ => fun
  | [d1, d2] => { results := [.lit (.bool false)], args := [d1, d2] }
  | _ => none }
def PassSharesWrongFalsely : Prop := passSharesRow.holds Try.pinned (OpenSpec.ofChange passSharesWrong)

/-- 'norialaw21.SkipTurns': WHATEVER THE INPUT: true; the input reads as it did. -/
def skipTurnsSpec : ChangeSpec := { name := "skipTurns", fn := fun _ => fun
  | [d1, d2, d3, d4, d5] => { results := [.lit (.bool true)], args := [d1, d2, d3, d4, d5] }
  | _ => none }
def skipTurnsRow : OpenClaim := { program := "ytdahjdfjpckdcaa", sum := "0c630f726b813fdcc18a4f22862505bda6a7477e815f37b408523eb43a10f307", func := "noria/norialaw21.SkipTurns", spec := "skipTurns", inPlace := ["math.archTrunc", "math.Float64bits", "math.Float64frombits"], unfollowed := true, recurses := true, apart := false }
def SkipTurnsSaid : Prop := skipTurnsRow.holds Try.pinned (OpenSpec.ofChange skipTurnsSpec)

/-- ITS FALSE NEIGHBOUR: 'it returns false'. Refute it at one input. -/
def skipTurnsWrong : ChangeSpec := { name := "skipTurns", fn := fun _ => fun
  | [d1, d2, d3, d4, d5] => { results := [.lit (.bool false)], args := [d1, d2, d3, d4, d5] }
  | _ => none }
def SkipTurnsWrongFalsely : Prop := skipTurnsRow.holds Try.pinned (OpenSpec.ofChange skipTurnsWrong)

/-- 'norialaw21.SkipExact': WHATEVER THE INPUT: true; the input reads as it did. -/
def skipExactSpec : ChangeSpec := { name := "skipExact", fn := fun _ => fun
  | [d1, d2, d3, d4, d5] => { results := [.lit (.bool true)], args := [d1, d2, d3, d4, d5] }
  | _ => none }
def skipExactRow : OpenClaim := { program := "ytdahjdfjpckdcaa", sum := "0c630f726b813fdcc18a4f22862505bda6a7477e815f37b408523eb43a10f307", func := "noria/norialaw21.SkipExact", spec := "skipExact", inPlace := ["math.archTrunc", "math.Float64bits", "math.Float64frombits"], unfollowed := true, recurses := true, apart := false }
def SkipExactSaid : Prop := skipExactRow.holds Try.pinned (OpenSpec.ofChange skipExactSpec)

/-- ITS FALSE NEIGHBOUR: 'it returns false'. Refute it at one input. -/
def skipExactWrong : ChangeSpec := { name := "skipExact", fn := fun _ => fun
  | [d1, d2, d3, d4, d5] => { results := [.lit (.bool false)], args := [d1, d2, d3, d4, d5] }
  | _ => none }
def SkipExactWrongFalsely : Prop := skipExactRow.holds Try.pinned (OpenSpec.ofChange skipExactWrong)

/-- 'norialaw9.StatNumbers': WHATEVER THE INPUT: true; the input reads as it did. -/
def statNumbersSpec : ChangeSpec := { name := "statNumbers", fn := fun _ => fun
  | [d1, d2, d3] => { results := [.lit (.bool true)], args := [d1, d2, d3] }
  | _ => none }
def statNumbersRow : OpenClaim := { program := "ytdahjdfjpckdcaa", sum := "0c630f726b813fdcc18a4f22862505bda6a7477e815f37b408523eb43a10f307", func := "noria/norialaw9.StatNumbers", spec := "statNumbers", inPlace := ["math.archTrunc", "math.Float64bits", "math.Float64frombits"], unfollowed := true, recurses := true, apart := false }
def StatNumbersSaid : Prop := statNumbersRow.holds Try.pinned (OpenSpec.ofChange statNumbersSpec)

/-- ITS FALSE NEIGHBOUR: 'it returns false'. Refute it at one input. -/
def statNumbersWrong : ChangeSpec := { name := "statNumbers", fn := fun _ => fun
  | [d1, d2, d3] => { results := [.lit (.bool false)], args := [d1, d2, d3] }
  | _ => none }
def StatNumbersWrongFalsely : Prop := statNumbersRow.holds Try.pinned (OpenSpec.ofChange statNumbersWrong)

/-- 'norialaw11.PredNumbers': WHATEVER THE INPUT: true; the input reads as it did. -/
def predNumbersSpec : ChangeSpec := { name := "predNumbers", fn := fun _ => fun
  | [d1, d2] => { results := [.lit (.bool true)], args := [d1, d2] }
  | _ => none }
def predNumbersRow : OpenClaim := { program := "ytdahjdfjpckdcaa", sum := "0c630f726b813fdcc18a4f22862505bda6a7477e815f37b408523eb43a10f307", func := "noria/norialaw11.PredNumbers", spec := "predNumbers", inPlace := ["math.archTrunc", "math.Float64bits", "math.Float64frombits"], unfollowed := true, recurses := true, apart := false }
def PredNumbersSaid : Prop := predNumbersRow.holds Try.pinned (OpenSpec.ofChange predNumbersSpec)

/-- ITS FALSE NEIGHBOUR: 'it returns false'. Refute it at one input. -/
def predNumbersWrong : ChangeSpec := { name := "predNumbers", fn := fun _ => fun
  | [d1, d2] => { results := [.lit (.bool false)], args := [d1, d2] }
  | _ => none }
def PredNumbersWrongFalsely : Prop := predNumbersRow.holds Try.pinned (OpenSpec.ofChange predNumbersWrong)

/-- 'norialaw11.PredMany': WHATEVER THE INPUT: true; the input reads as it did. -/
def predManySpec : ChangeSpec := { name := "predMany", fn := fun _ => fun
  | [d] => { results := [.lit (.bool true)], args := [d] }
  | _ => none }
def predManyRow : OpenClaim := { program := "ytdahjdfjpckdcaa", sum := "0c630f726b813fdcc18a4f22862505bda6a7477e815f37b408523eb43a10f307", func := "noria/norialaw11.PredMany", spec := "predMany", inPlace := ["math.archTrunc", "math.Float64bits", "math.Float64frombits"], unfollowed := true, recurses := true, apart := false }
def PredManySaid : Prop := predManyRow.holds Try.pinned (OpenSpec.ofChange predManySpec)

/-- ITS FALSE NEIGHBOUR: 'it returns false'. Refute it at one input. -/
def predManyWrong : ChangeSpec := { name := "predMany", fn := fun _ => fun
  | [d] => { results := [.lit (.bool false)], args := [d] }
  | _ => none }
def PredManyWrongFalsely : Prop := predManyRow.holds Try.pinned (OpenSpec.ofChange predManyWrong)

/-- 'norialaw19.PoolOnce': WHATEVER THE INPUT: true; the input reads as it did. -/
def poolOnceSpec : ChangeSpec := { name := "poolOnce", fn := fun _ => fun
  | [d1, d2] => { results := [.lit (.bool true)], args := [d1, d2] }
  | _ => none }
def poolOnceRow : OpenClaim := { program := "ytdahjdfjpckdcaa", sum := "0c630f726b813fdcc18a4f22862505bda6a7477e815f37b408523eb43a10f307", func := "noria/norialaw19.PoolOnce", spec := "poolOnce", unfollowed := true, recurses := true, apart := false }
def PoolOnceSaid : Prop := poolOnceRow.holds Try.pinned (OpenSpec.ofChange poolOnceSpec)

/-- ITS FALSE NEIGHBOUR: 'it returns false'. Refute it at one input. -/
def poolOnceWrong : ChangeSpec := { name := "poolOnce", fn := fun _ => fun
  | [d1, d2] => { results := [.lit (.bool false)], args := [d1, d2] }
  | _ => none }
def PoolOnceWrongFalsely : Prop := poolOnceRow.holds Try.pinned (OpenSpec.ofChange poolOnceWrong)

/-- 'norialaw8.ColNulls': WHATEVER THE INPUT: true; the input reads as it did. -/
def colNullsSpec : ChangeSpec := { name := "colNulls", fn := fun _ => fun
  | [d1, d2] => { results := [.lit (.bool true)], args := [d1, d2] }
  | _ => none }
def colNullsRow : OpenClaim := { program := "ytdahjdfjpckdcaa", sum := "0c630f726b813fdcc18a4f22862505bda6a7477e815f37b408523eb43a10f307", func := "noria/norialaw8.ColNulls", spec := "colNulls", inPlace := ["math.archTrunc", "math.Float64bits", "math.Float64frombits"], unfollowed := true, recurses := true, apart := false }
def ColNullsSaid : Prop := colNullsRow.holds Try.pinned (OpenSpec.ofChange colNullsSpec)

/-- ITS FALSE NEIGHBOUR: 'it returns false'. Refute it at one input. -/
def colNullsWrong : ChangeSpec := { name := "colNulls", fn := fun _ => fun
  | [d1, d2] => { results := [.lit (.bool false)], args := [d1, d2] }
  | _ => none }
def ColNullsWrongFalsely : Prop := colNullsRow.holds Try.pinned (OpenSpec.ofChange colNullsWrong)

/- THE SECOND FORM. 'bulk': how many values and letters a reading holds, each counted each time it is reached (what is shared counts as often as it is met; a slice's spare places count too). A statement '..UptoSaid' is the law's where the arguments, and the package variables that the reading takes, are together of bulk at most 1048576: NARROWER than '..Said'. Prove '..Said' where nothing that the law and all that it calls make is longer than what came in: it says more and counts as full. Else prove '..UptoSaid'. A law counts once. -/
mutual
def uptoBulk {H : Type} : DataW H → Nat
  | .lit (.string bytes) => bytes.length + 1
  | .lit _ => 1
  | .nil => 1
  | .ptr d => uptoBulk d + 1
  | .slice elems spare => uptoBulkAll elems + uptoBulkAll spare + 1
  | .agg parts => uptoBulkAll parts + 1
  | .iface _ d => uptoBulk d + 1
  | .map entries => uptoBulkEntries entries + 1
  | .held _ => 1
def uptoBulkAll {H : Type} : List (DataW H) → Nat
  | [] => 0
  | d :: r => uptoBulk d + uptoBulkAll r
def uptoBulkEntries {H : Type} : List (Lit × DataW H) → Nat
  | [] => 0
  | x :: r => uptoBulkEntry x + uptoBulkEntries r
def uptoBulkEntry {H : Type} : Lit × DataW H → Nat
  | (.string bytes, d) => bytes.length + uptoBulk d + 1
  | (_, d) => uptoBulk d + 1
 end
def uptoSmall : (H : Type) → List (DataW H) → Bool := fun _ ds => decide (uptoBulkAll ds ≤ 1048576)
def OpenSpec.upto (s : _root_.Go.ChangeSpec) : _root_.Go.OpenSpec := { _root_.Go.OpenSpec.ofChange s with cond := some uptoSmall }

/-- 'norialaw22.PassShares', WHERE WHAT IT READS IS OF BULK AT MOST 1048576: true; the input reads as it did. -/
def passSharesUptoRow : OpenClaim := { program := "ytdahjdfjpckdcaa", sum := "0c630f726b813fdcc18a4f22862505bda6a7477e815f37b408523eb43a10f307", func := "noria/norialaw22.PassShares", spec := "passShares", apart := false, narrowed := true }
def PassSharesUptoSaid : Prop := passSharesUptoRow.holds Try.pinned (OpenSpec.upto passSharesSpec)

/-- 'norialaw21.SkipTurns', WHERE WHAT IT READS IS OF BULK AT MOST 1048576: true; the input reads as it did. -/
def skipTurnsUptoRow : OpenClaim := { program := "ytdahjdfjpckdcaa", sum := "0c630f726b813fdcc18a4f22862505bda6a7477e815f37b408523eb43a10f307", func := "noria/norialaw21.SkipTurns", spec := "skipTurns", inPlace := ["math.archTrunc", "math.Float64bits", "math.Float64frombits"], unfollowed := true, recurses := true, apart := false, narrowed := true }
def SkipTurnsUptoSaid : Prop := skipTurnsUptoRow.holds Try.pinned (OpenSpec.upto skipTurnsSpec)

/-- 'norialaw21.SkipExact', WHERE WHAT IT READS IS OF BULK AT MOST 1048576: true; the input reads as it did. -/
def skipExactUptoRow : OpenClaim := { program := "ytdahjdfjpckdcaa", sum := "0c630f726b813fdcc18a4f22862505bda6a7477e815f37b408523eb43a10f307", func := "noria/norialaw21.SkipExact", spec := "skipExact", inPlace := ["math.archTrunc", "math.Float64bits", "math.Float64frombits"], unfollowed := true, recurses := true, apart := false, narrowed := true }
def SkipExactUptoSaid : Prop := skipExactUptoRow.holds Try.pinned (OpenSpec.upto skipExactSpec)

/-- 'norialaw9.StatNumbers', WHERE WHAT IT READS IS OF BULK AT MOST 1048576: true; the input reads as it did. -/
def statNumbersUptoRow : OpenClaim := { program := "ytdahjdfjpckdcaa", sum := "0c630f726b813fdcc18a4f22862505bda6a7477e815f37b408523eb43a10f307", func := "noria/norialaw9.StatNumbers", spec := "statNumbers", inPlace := ["math.archTrunc", "math.Float64bits", "math.Float64frombits"], unfollowed := true, recurses := true, apart := false, narrowed := true }
def StatNumbersUptoSaid : Prop := statNumbersUptoRow.holds Try.pinned (OpenSpec.upto statNumbersSpec)

/-- 'norialaw11.PredNumbers', WHERE WHAT IT READS IS OF BULK AT MOST 1048576: true; the input reads as it did. -/
def predNumbersUptoRow : OpenClaim := { program := "ytdahjdfjpckdcaa", sum := "0c630f726b813fdcc18a4f22862505bda6a7477e815f37b408523eb43a10f307", func := "noria/norialaw11.PredNumbers", spec := "predNumbers", inPlace := ["math.archTrunc", "math.Float64bits", "math.Float64frombits"], unfollowed := true, recurses := true, apart := false, narrowed := true }
def PredNumbersUptoSaid : Prop := predNumbersUptoRow.holds Try.pinned (OpenSpec.upto predNumbersSpec)

/-- 'norialaw11.PredMany', WHERE WHAT IT READS IS OF BULK AT MOST 1048576: true; the input reads as it did. -/
def predManyUptoRow : OpenClaim := { program := "ytdahjdfjpckdcaa", sum := "0c630f726b813fdcc18a4f22862505bda6a7477e815f37b408523eb43a10f307", func := "noria/norialaw11.PredMany", spec := "predMany", inPlace := ["math.archTrunc", "math.Float64bits", "math.Float64frombits"], unfollowed := true, recurses := true, apart := false, narrowed := true }
def PredManyUptoSaid : Prop := predManyUptoRow.holds Try.pinned (OpenSpec.upto predManySpec)

/-- 'norialaw19.PoolOnce', WHERE WHAT IT READS IS OF BULK AT MOST 1048576: true; the input reads as it did. -/
def poolOnceUptoRow : OpenClaim := { program := "ytdahjdfjpckdcaa", sum := "0c630f726b813fdcc18a4f22862505bda6a7477e815f37b408523eb43a10f307", func := "noria/norialaw19.PoolOnce", spec := "poolOnce", unfollowed := true, recurses := true, apart := false, narrowed := true }
def PoolOnceUptoSaid : Prop := poolOnceUptoRow.holds Try.pinned (OpenSpec.upto poolOnceSpec)

/-- 'norialaw8.ColNulls', WHERE WHAT IT READS IS OF BULK AT MOST 1048576: true; the input reads as it did. -/
def colNullsUptoRow : OpenClaim := { program := "ytdahjdfjpckdcaa", sum := "0c630f726b813fdcc18a4f22862505bda6a7477e815f37b408523eb43a10f307", func := "noria/norialaw8.ColNulls", spec := "colNulls", inPlace := ["math.archTrunc", "math.Float64bits", "math.Float64frombits"], unfollowed := true, recurses := true, apart := false, narrowed := true }
def ColNullsUptoSaid : Prop := colNullsUptoRow.holds Try.pinned (OpenSpec.upto colNullsSpec)

end Rows
end Go.Proofs.Ytdahjdfjpckdcaa
