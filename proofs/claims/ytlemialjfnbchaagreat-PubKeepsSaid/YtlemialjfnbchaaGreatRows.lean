/-
  No cell of these rows narrows 'for every input' (looked for: loops, veiled, ifaces, maps, wideKeys, modest, calm, conditions, laid).
  DERIVED. THE GIVEN ROWS OF THIS SEAT. 7 by the template 'for every input the law returns true; each argument reads behind the call as it read before'; 0 by the template 'total and deterministic' (their statements: YtlemialjfnbchaaGreatTotals.lean).
  GIVEN WITH THE SEED: the statements are not yours to turn. If you find one false, say at which input.
  Laid BY PROGRAM, IN A SANDBOX (cutbox-rows.mjs): the forced cells as the released guide's own fill.sh prints them over the translation 604e03edcdfdfa75… (all of the seat's roots in one cut). By AI agents, Wed Nov 11 2026. No macro, syntax, notation, axiom, sorry.
-/
import Derived.Test.YtlemialjfnbchaaGreatChecked
import GoSem.Claim
import GoSem.ClaimJoined
import GoSem.ClaimMapViews
import Derived.JoinedTies
import Derived.KernelRfl
namespace Go.Proofs.YtlemialjfnbchaaGreat
/- THE CELL 'sum', in the pinned program and in every row, IS THE sha256 OF THE DUMP (.gsa) THAT YtlemialjfnbchaaGreatProg.lean LOADS. Nothing in Lean hashes anything: it is a label: what it is worth is what the hold of that sum in a sandbox is worth. -/
noncomputable def Tryz.pinned : Pinned := { name := "ytlemialjfnbchaagreat", sum := "604e03edcdfdfa757fd0f9c71c68924c4e1a33ba000d99bb8744cfcf4d297cd0", checked := Tryz.checked }
namespace Rows
def none {H : Type} : Left H := { results := [], args := [] }

/-- 'norialaw19.PoolPlays': WHATEVER THE INPUT: true; the input reads as it did. -/
def poolPlaysSpec : ChangeSpec := { name := "poolPlays", fn := fun _ => fun
  | [d1, d2, d3] => { results := [.lit (.bool true)], args := [d1, d2, d3] }
  | _ => none }
def poolPlaysRow : OpenClaim := { program := "ytlemialjfnbchaagreat", sum := "604e03edcdfdfa757fd0f9c71c68924c4e1a33ba000d99bb8744cfcf4d297cd0", func := "noria/norialaw19.PoolPlays", spec := "poolPlays", inPlace := ["maps.clone"], unfollowed := true, recurses := true, apart := false }
def PoolPlaysSaid : Prop := poolPlaysRow.holds Tryz.pinned (OpenSpec.ofChange poolPlaysSpec)

/-- ITS FALSE NEIGHBOUR: 'it returns false'. Refute it at one input. -/
def poolPlaysWrong : ChangeSpec := { name := "poolPlays", fn := fun _ => fun
  | [d1, d2, d3] => { results := [.lit (.bool false)], args := [d1, d2, d3] }
  | _ => none }
def PoolPlaysWrongFalsely : Prop := poolPlaysRow.holds Tryz.pinned (OpenSpec.ofChange poolPlaysWrong)

/-- 'norialaw18.PubTwins': WHATEVER THE INPUT: true; the input reads as it did. -/
def pubTwinsSpec : ChangeSpec := { name := "pubTwins", fn := fun _ => fun
  | [d1, d2] => { results := [.lit (.bool true)], args := [d1, d2] }
  | _ => none }
def pubTwinsRow : OpenClaim := { program := "ytlemialjfnbchaagreat", sum := "604e03edcdfdfa757fd0f9c71c68924c4e1a33ba000d99bb8744cfcf4d297cd0", func := "noria/norialaw18.PubTwins", spec := "pubTwins", inPlace := ["math.archTrunc", "math.Float64bits", "math.Float64frombits"], unfollowed := true, recurses := true, apart := false }
def PubTwinsSaid : Prop := pubTwinsRow.holds Tryz.pinned (OpenSpec.ofChange pubTwinsSpec)

/-- ITS FALSE NEIGHBOUR: 'it returns false'. Refute it at one input. -/
def pubTwinsWrong : ChangeSpec := { name := "pubTwins", fn := fun _ => fun
  | [d1, d2] => { results := [.lit (.bool false)], args := [d1, d2] }
  | _ => none }
def PubTwinsWrongFalsely : Prop := pubTwinsRow.holds Tryz.pinned (OpenSpec.ofChange pubTwinsWrong)

/-- 'norialaw18.PubKeeps': WHATEVER THE INPUT: true; the input reads as it did. -/
def pubKeepsSpec : ChangeSpec := { name := "pubKeeps", fn := fun _ => fun
  | [d1, d2, d3] => { results := [.lit (.bool true)], args := [d1, d2, d3] }
  | _ => none }
def pubKeepsRow : OpenClaim := { program := "ytlemialjfnbchaagreat", sum := "604e03edcdfdfa757fd0f9c71c68924c4e1a33ba000d99bb8744cfcf4d297cd0", func := "noria/norialaw18.PubKeeps", spec := "pubKeeps", inPlace := ["math.archTrunc", "math.Float64bits", "math.Float64frombits"], unfollowed := true, recurses := true, apart := false }
def PubKeepsSaid : Prop := pubKeepsRow.holds Tryz.pinned (OpenSpec.ofChange pubKeepsSpec)

/-- ITS FALSE NEIGHBOUR: 'it returns false'. Refute it at one input. -/
def pubKeepsWrong : ChangeSpec := { name := "pubKeeps", fn := fun _ => fun
  | [d1, d2, d3] => { results := [.lit (.bool false)], args := [d1, d2, d3] }
  | _ => none }
def PubKeepsWrongFalsely : Prop := pubKeepsRow.holds Tryz.pinned (OpenSpec.ofChange pubKeepsWrong)

/-- 'norialaw24.TableTwo': WHATEVER THE INPUT: true; the input reads as it did. -/
def tableTwoSpec : ChangeSpec := { name := "tableTwo", fn := fun _ => fun
  | [d1, d2, d3] => { results := [.lit (.bool true)], args := [d1, d2, d3] }
  | _ => none }
def tableTwoRow : OpenClaim := { program := "ytlemialjfnbchaagreat", sum := "604e03edcdfdfa757fd0f9c71c68924c4e1a33ba000d99bb8744cfcf4d297cd0", func := "noria/norialaw24.TableTwo", spec := "tableTwo", inPlace := ["math.archTrunc", "math.Float64bits", "math.Float64frombits"], unfollowed := true, recurses := true, apart := false }
def TableTwoSaid : Prop := tableTwoRow.holds Tryz.pinned (OpenSpec.ofChange tableTwoSpec)

/-- ITS FALSE NEIGHBOUR: 'it returns false'. Refute it at one input. -/
def tableTwoWrong : ChangeSpec := { name := "tableTwo", fn := fun _ => fun
  | [d1, d2, d3] => { results := [.lit (.bool false)], args := [d1, d2, d3] }
  | _ => none }
def TableTwoWrongFalsely : Prop := tableTwoRow.holds Tryz.pinned (OpenSpec.ofChange tableTwoWrong)

/-- 'norialaw26.ServeMany': WHATEVER THE INPUT: true; the input reads as it did. -/
def serveManySpec : ChangeSpec := { name := "serveMany", fn := fun _ => fun
  | [d1, d2] => { results := [.lit (.bool true)], args := [d1, d2] }
  | _ => none }
def serveManyRow : OpenClaim := { program := "ytlemialjfnbchaagreat", sum := "604e03edcdfdfa757fd0f9c71c68924c4e1a33ba000d99bb8744cfcf4d297cd0", func := "noria/norialaw26.ServeMany", spec := "serveMany", inPlace := ["math.archTrunc", "math.Float64bits", "math.Float64frombits"], unfollowed := true, recurses := true, apart := false }
def ServeManySaid : Prop := serveManyRow.holds Tryz.pinned (OpenSpec.ofChange serveManySpec)

/-- ITS FALSE NEIGHBOUR: 'it returns false'. Refute it at one input. -/
def serveManyWrong : ChangeSpec := { name := "serveMany", fn := fun _ => fun
  | [d1, d2] => { results := [.lit (.bool false)], args := [d1, d2] }
  | _ => none }
def ServeManyWrongFalsely : Prop := serveManyRow.holds Tryz.pinned (OpenSpec.ofChange serveManyWrong)

/-- 'norialaw26.ServeLeaves': WHATEVER THE INPUT: true; the input reads as it did. -/
def serveLeavesSpec : ChangeSpec := { name := "serveLeaves", fn := fun _ => fun
  | [d1, d2] => { results := [.lit (.bool true)], args := [d1, d2] }
  | _ => none }
def serveLeavesRow : OpenClaim := { program := "ytlemialjfnbchaagreat", sum := "604e03edcdfdfa757fd0f9c71c68924c4e1a33ba000d99bb8744cfcf4d297cd0", func := "noria/norialaw26.ServeLeaves", spec := "serveLeaves", inPlace := ["math.archTrunc", "math.Float64bits", "math.Float64frombits"], unfollowed := true, recurses := true, apart := false }
def ServeLeavesSaid : Prop := serveLeavesRow.holds Tryz.pinned (OpenSpec.ofChange serveLeavesSpec)

/-- ITS FALSE NEIGHBOUR: 'it returns false'. Refute it at one input. -/
def serveLeavesWrong : ChangeSpec := { name := "serveLeaves", fn := fun _ => fun
  | [d1, d2] => { results := [.lit (.bool false)], args := [d1, d2] }
  | _ => none }
def ServeLeavesWrongFalsely : Prop := serveLeavesRow.holds Tryz.pinned (OpenSpec.ofChange serveLeavesWrong)

/-- 'norialaw26.ServeWaits': WHATEVER THE INPUT: true; the input reads as it did. -/
def serveWaitsSpec : ChangeSpec := { name := "serveWaits", fn := fun _ => fun
  | [d1, d2, d3] => { results := [.lit (.bool true)], args := [d1, d2, d3] }
  | _ => none }
def serveWaitsRow : OpenClaim := { program := "ytlemialjfnbchaagreat", sum := "604e03edcdfdfa757fd0f9c71c68924c4e1a33ba000d99bb8744cfcf4d297cd0", func := "noria/norialaw26.ServeWaits", spec := "serveWaits", inPlace := ["math.archTrunc", "math.Float64bits", "math.Float64frombits"], unfollowed := true, recurses := true, apart := false }
def ServeWaitsSaid : Prop := serveWaitsRow.holds Tryz.pinned (OpenSpec.ofChange serveWaitsSpec)

/-- ITS FALSE NEIGHBOUR: 'it returns false'. Refute it at one input. -/
def serveWaitsWrong : ChangeSpec := { name := "serveWaits", fn := fun _ => fun
  | [d1, d2, d3] => { results := [.lit (.bool false)], args := [d1, d2, d3] }
  | _ => none }
def ServeWaitsWrongFalsely : Prop := serveWaitsRow.holds Tryz.pinned (OpenSpec.ofChange serveWaitsWrong)

/- THE SECOND FORM. 'bulk': how many values and letters a reading holds, each counted each time it is reached (what is shared counts as often as it is met; a slice's spare places count too). A statement '..UptoSaid' is the law's where the arguments, and the package variables that the reading takes, are together of bulk at most 1048576: NARROWER than '..Said'. Prove '..Said' where nothing that the law and all that it calls make is longer than what came in: it says more and counts as full. Else prove '..UptoSaid'. A law counts once. -/
mutual
def uptoBulk {H : Type} : DataW H → Nat
  | .lit (.string bytes) => bytes.length + 1
  | .lit _ => 1
  | .nil => 1
  | .ptr d => uptoBulk d + 1
  | .slice elems spare => uptoBulkAll elems + uptoBulkAll spare + 1
  | .agg parts => uptoBulkAll parts + 1
  | .iface _ d => uptoBulk d + 1
  | .map entries => uptoBulkEntries entries + 1
  | .held _ => 1
def uptoBulkAll {H : Type} : List (DataW H) → Nat
  | [] => 0
  | d :: r => uptoBulk d + uptoBulkAll r
def uptoBulkEntries {H : Type} : List (Lit × DataW H) → Nat
  | [] => 0
  | x :: r => uptoBulkEntry x + uptoBulkEntries r
def uptoBulkEntry {H : Type} : Lit × DataW H → Nat
  | (.string bytes, d) => bytes.length + uptoBulk d + 1
  | (_, d) => uptoBulk d + 1
 end
def uptoSmall : (H : Type) → List (DataW H) → Bool := fun _ ds => decide (uptoBulkAll ds ≤ 1048576)
def OpenSpec.upto (s : _root_.Go.ChangeSpec) : _root_.Go.OpenSpec := { _root_.Go.OpenSpec.ofChange s with cond := some uptoSmall }

/-- 'norialaw19.PoolPlays', WHERE WHAT IT READS IS OF BULK AT MOST 1048576: true; the input reads as it did. -/
def poolPlaysUptoRow : OpenClaim := { program := "ytlemialjfnbchaagreat", sum := "604e03edcdfdfa757fd0f9c71c68924c4e1a33ba000d99bb8744cfcf4d297cd0", func := "noria/norialaw19.PoolPlays", spec := "poolPlays", inPlace := ["maps.clone"], unfollowed := true, recurses := true, apart := false, narrowed := true }
def PoolPlaysUptoSaid : Prop := poolPlaysUptoRow.holds Tryz.pinned (OpenSpec.upto poolPlaysSpec)

/-- 'norialaw18.PubTwins', WHERE WHAT IT READS IS OF BULK AT MOST 1048576: true; the input reads as it did. -/
def pubTwinsUptoRow : OpenClaim := { program := "ytlemialjfnbchaagreat", sum := "604e03edcdfdfa757fd0f9c71c68924c4e1a33ba000d99bb8744cfcf4d297cd0", func := "noria/norialaw18.PubTwins", spec := "pubTwins", inPlace := ["math.archTrunc", "math.Float64bits", "math.Float64frombits"], unfollowed := true, recurses := true, apart := false, narrowed := true }
def PubTwinsUptoSaid : Prop := pubTwinsUptoRow.holds Tryz.pinned (OpenSpec.upto pubTwinsSpec)

/-- 'norialaw18.PubKeeps', WHERE WHAT IT READS IS OF BULK AT MOST 1048576: true; the input reads as it did. -/
def pubKeepsUptoRow : OpenClaim := { program := "ytlemialjfnbchaagreat", sum := "604e03edcdfdfa757fd0f9c71c68924c4e1a33ba000d99bb8744cfcf4d297cd0", func := "noria/norialaw18.PubKeeps", spec := "pubKeeps", inPlace := ["math.archTrunc", "math.Float64bits", "math.Float64frombits"], unfollowed := true, recurses := true, apart := false, narrowed := true }
def PubKeepsUptoSaid : Prop := pubKeepsUptoRow.holds Tryz.pinned (OpenSpec.upto pubKeepsSpec)

/-- 'norialaw24.TableTwo', WHERE WHAT IT READS IS OF BULK AT MOST 1048576: true; the input reads as it did. -/
def tableTwoUptoRow : OpenClaim := { program := "ytlemialjfnbchaagreat", sum := "604e03edcdfdfa757fd0f9c71c68924c4e1a33ba000d99bb8744cfcf4d297cd0", func := "noria/norialaw24.TableTwo", spec := "tableTwo", inPlace := ["math.archTrunc", "math.Float64bits", "math.Float64frombits"], unfollowed := true, recurses := true, apart := false, narrowed := true }
def TableTwoUptoSaid : Prop := tableTwoUptoRow.holds Tryz.pinned (OpenSpec.upto tableTwoSpec)

/-- 'norialaw26.ServeMany', WHERE WHAT IT READS IS OF BULK AT MOST 1048576: true; the input reads as it did. -/
def serveManyUptoRow : OpenClaim := { program := "ytlemialjfnbchaagreat", sum := "604e03edcdfdfa757fd0f9c71c68924c4e1a33ba000d99bb8744cfcf4d297cd0", func := "noria/norialaw26.ServeMany", spec := "serveMany", inPlace := ["math.archTrunc", "math.Float64bits", "math.Float64frombits"], unfollowed := true, recurses := true, apart := false, narrowed := true }
def ServeManyUptoSaid : Prop := serveManyUptoRow.holds Tryz.pinned (OpenSpec.upto serveManySpec)

/-- 'norialaw26.ServeLeaves', WHERE WHAT IT READS IS OF BULK AT MOST 1048576: true; the input reads as it did. -/
def serveLeavesUptoRow : OpenClaim := { program := "ytlemialjfnbchaagreat", sum := "604e03edcdfdfa757fd0f9c71c68924c4e1a33ba000d99bb8744cfcf4d297cd0", func := "noria/norialaw26.ServeLeaves", spec := "serveLeaves", inPlace := ["math.archTrunc", "math.Float64bits", "math.Float64frombits"], unfollowed := true, recurses := true, apart := false, narrowed := true }
def ServeLeavesUptoSaid : Prop := serveLeavesUptoRow.holds Tryz.pinned (OpenSpec.upto serveLeavesSpec)

/-- 'norialaw26.ServeWaits', WHERE WHAT IT READS IS OF BULK AT MOST 1048576: true; the input reads as it did. -/
def serveWaitsUptoRow : OpenClaim := { program := "ytlemialjfnbchaagreat", sum := "604e03edcdfdfa757fd0f9c71c68924c4e1a33ba000d99bb8744cfcf4d297cd0", func := "noria/norialaw26.ServeWaits", spec := "serveWaits", inPlace := ["math.archTrunc", "math.Float64bits", "math.Float64frombits"], unfollowed := true, recurses := true, apart := false, narrowed := true }
def ServeWaitsUptoSaid : Prop := serveWaitsUptoRow.holds Tryz.pinned (OpenSpec.upto serveWaitsSpec)

end Rows
end Go.Proofs.YtlemialjfnbchaaGreat
