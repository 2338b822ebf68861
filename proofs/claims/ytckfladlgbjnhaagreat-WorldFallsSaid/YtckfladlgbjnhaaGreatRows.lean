/-
  No cell of these rows narrows 'for every input' (looked for: loops, veiled, ifaces, maps, wideKeys, modest, calm, conditions, laid).
  DERIVED. THE GIVEN ROWS OF THIS SEAT. 11 by the template 'for every input the law returns true; each argument reads behind the call as it read before'; 0 by the template 'total and deterministic' (their statements: YtckfladlgbjnhaaGreatTotals.lean).
  GIVEN WITH THE SEED: the statements are not yours to turn. If you find one false, say at which input.
  Laid BY PROGRAM, IN A SANDBOX (cutbox-rows.mjs): the forced cells as the released guide's own fill.sh prints them over the translation 7eb88b0a4ebead4a… (all of the seat's roots in one cut). By AI agents, Wed Nov 11 2026. No macro, syntax, notation, axiom, sorry.
-/
import Derived.Test.YtckfladlgbjnhaaGreatChecked
import GoSem.Claim
import GoSem.ClaimJoined
import GoSem.ClaimMapViews
import Derived.JoinedTies
import Derived.KernelRfl
namespace Go.Proofs.YtckfladlgbjnhaaGreat
/- THE CELL 'sum', in the pinned program and in every row, IS THE sha256 OF THE DUMP (.gsa) THAT YtckfladlgbjnhaaGreatProg.lean LOADS. Nothing in Lean hashes anything: it is a label: what it is worth is what the hold of that sum in a sandbox is worth. -/
noncomputable def Tryz.pinned : Pinned := { name := "ytckfladlgbjnhaagreat", sum := "7eb88b0a4ebead4a99c5e4d453183249205f4f2a47cc3b65c5c15ac73f36366e", checked := Tryz.checked }
namespace Rows
def none {H : Type} : Left H := { results := [], args := [] }

/-- 'norialaw18.PubKeeps': WHATEVER THE INPUT: true; the input reads as it did. -/
def pubKeepsSpec : ChangeSpec := { name := "pubKeeps", fn := fun _ => fun
  | [d1, d2, d3] => { results := [.lit (.bool true)], args := [d1, d2, d3] }
  | _ => none }
def pubKeepsRow : OpenClaim := { program := "ytckfladlgbjnhaagreat", sum := "7eb88b0a4ebead4a99c5e4d453183249205f4f2a47cc3b65c5c15ac73f36366e", func := "noria/norialaw18.PubKeeps", spec := "pubKeeps", inPlace := ["math.archTrunc", "math.Float64bits", "math.Float64frombits"], unfollowed := true, recurses := true, apart := false }
def PubKeepsSaid : Prop := pubKeepsRow.holds Tryz.pinned (OpenSpec.ofChange pubKeepsSpec)

/-- ITS FALSE NEIGHBOUR: 'it returns false'. Refute it at one input. -/
def pubKeepsWrong : ChangeSpec := { name := "pubKeeps", fn := fun _ => fun
  | [d1, d2, d3] => { results := [.lit (.bool false)], args := [d1, d2, d3] }
  | _ => none }
def PubKeepsWrongFalsely : Prop := pubKeepsRow.holds Tryz.pinned (OpenSpec.ofChange pubKeepsWrong)

/-- 'norialaw18.PubTwins': WHATEVER THE INPUT: true; the input reads as it did. -/
def pubTwinsSpec : ChangeSpec := { name := "pubTwins", fn := fun _ => fun
  | [d1, d2] => { results := [.lit (.bool true)], args := [d1, d2] }
  | _ => none }
def pubTwinsRow : OpenClaim := { program := "ytckfladlgbjnhaagreat", sum := "7eb88b0a4ebead4a99c5e4d453183249205f4f2a47cc3b65c5c15ac73f36366e", func := "noria/norialaw18.PubTwins", spec := "pubTwins", inPlace := ["math.archTrunc", "math.Float64bits", "math.Float64frombits"], unfollowed := true, recurses := true, apart := false }
def PubTwinsSaid : Prop := pubTwinsRow.holds Tryz.pinned (OpenSpec.ofChange pubTwinsSpec)

/-- ITS FALSE NEIGHBOUR: 'it returns false'. Refute it at one input. -/
def pubTwinsWrong : ChangeSpec := { name := "pubTwins", fn := fun _ => fun
  | [d1, d2] => { results := [.lit (.bool false)], args := [d1, d2] }
  | _ => none }
def PubTwinsWrongFalsely : Prop := pubTwinsRow.holds Tryz.pinned (OpenSpec.ofChange pubTwinsWrong)

/-- 'norialaw24.TableTwo': WHATEVER THE INPUT: true; the input reads as it did. -/
def tableTwoSpec : ChangeSpec := { name := "tableTwo", fn := fun _ => fun
  | [d1, d2, d3] => { results := [.lit (.bool true)], args := [d1, d2, d3] }
  | _ => none }
def tableTwoRow : OpenClaim := { program := "ytckfladlgbjnhaagreat", sum := "7eb88b0a4ebead4a99c5e4d453183249205f4f2a47cc3b65c5c15ac73f36366e", func := "noria/norialaw24.TableTwo", spec := "tableTwo", inPlace := ["math.archTrunc", "math.Float64bits", "math.Float64frombits"], unfollowed := true, recurses := true, apart := false }
def TableTwoSaid : Prop := tableTwoRow.holds Tryz.pinned (OpenSpec.ofChange tableTwoSpec)

/-- ITS FALSE NEIGHBOUR: 'it returns false'. Refute it at one input. -/
def tableTwoWrong : ChangeSpec := { name := "tableTwo", fn := fun _ => fun
  | [d1, d2, d3] => { results := [.lit (.bool false)], args := [d1, d2, d3] }
  | _ => none }
def TableTwoWrongFalsely : Prop := tableTwoRow.holds Tryz.pinned (OpenSpec.ofChange tableTwoWrong)

/-- 'norialaw26.ServeMany': WHATEVER THE INPUT: true; the input reads as it did. -/
def serveManySpec : ChangeSpec := { name := "serveMany", fn := fun _ => fun
  | [d1, d2] => { results := [.lit (.bool true)], args := [d1, d2] }
  | _ => none }
def serveManyRow : OpenClaim := { program := "ytckfladlgbjnhaagreat", sum := "7eb88b0a4ebead4a99c5e4d453183249205f4f2a47cc3b65c5c15ac73f36366e", func := "noria/norialaw26.ServeMany", spec := "serveMany", inPlace := ["math.archTrunc", "math.Float64bits", "math.Float64frombits"], unfollowed := true, recurses := true, apart := false }
def ServeManySaid : Prop := serveManyRow.holds Tryz.pinned (OpenSpec.ofChange serveManySpec)

/-- ITS FALSE NEIGHBOUR: 'it returns false'. Refute it at one input. -/
def serveManyWrong : ChangeSpec := { name := "serveMany", fn := fun _ => fun
  | [d1, d2] => { results := [.lit (.bool false)], args := [d1, d2] }
  | _ => none }
def ServeManyWrongFalsely : Prop := serveManyRow.holds Tryz.pinned (OpenSpec.ofChange serveManyWrong)

/-- 'norialaw26.ServeLeaves': WHATEVER THE INPUT: true; the input reads as it did. -/
def serveLeavesSpec : ChangeSpec := { name := "serveLeaves", fn := fun _ => fun
  | [d1, d2] => { results := [.lit (.bool true)], args := [d1, d2] }
  | _ => none }
def serveLeavesRow : OpenClaim := { program := "ytckfladlgbjnhaagreat", sum := "7eb88b0a4ebead4a99c5e4d453183249205f4f2a47cc3b65c5c15ac73f36366e", func := "noria/norialaw26.ServeLeaves", spec := "serveLeaves", inPlace := ["math.archTrunc", "math.Float64bits", "math.Float64frombits"], unfollowed := true, recurses := true, apart := false }
def ServeLeavesSaid : Prop := serveLeavesRow.holds Tryz.pinned (OpenSpec.ofChange serveLeavesSpec)

/-- ITS FALSE NEIGHBOUR: 'it returns false'. Refute it at one input. -/
def serveLeavesWrong : ChangeSpec := { name := "serveLeaves", fn := fun _ => fun
  | [d1, d2] => { results := [.lit (.bool false)], args := [d1, d2] }
  | _ => none }
def ServeLeavesWrongFalsely : Prop := serveLeavesRow.holds Tryz.pinned (OpenSpec.ofChange serveLeavesWrong)

/-- 'norialaw26.ServeWaits': WHATEVER THE INPUT: true; the input reads as it did. -/
def serveWaitsSpec : ChangeSpec := { name := "serveWaits", fn := fun _ => fun
  | [d1, d2, d3] => { results := [.lit (.bool true)], args := [d1, d2, d3] }
  | _ => none }
def serveWaitsRow : OpenClaim := { program := "ytckfladlgbjnhaagreat", sum := "7eb88b0a4ebead4a99c5e4d453183249205f4f2a47cc3b65c5c15ac73f36366e", func := "noria/norialaw26.ServeWaits", spec := "serveWaits", inPlace := ["math.archTrunc", "math.Float64bits", "math.Float64frombits"], unfollowed := true, recurses := true, apart := false }
def ServeWaitsSaid : Prop := serveWaitsRow.holds Tryz.pinned (OpenSpec.ofChange serveWaitsSpec)

/-- ITS FALSE NEIGHBOUR: 'it returns false'. Refute it at one input. -/
def serveWaitsWrong : ChangeSpec := { name := "serveWaits", fn := fun _ => fun
  | [d1, d2, d3] => { results := [.lit (.bool false)], args := [d1, d2, d3] }
  | _ => none }
def ServeWaitsWrongFalsely : Prop := serveWaitsRow.holds Tryz.pinned (OpenSpec.ofChange serveWaitsWrong)

/-- 'norialaw26.ServeSnapshots': WHATEVER THE INPUT: true; the input reads as it did. -/
def serveSnapshotsSpec : ChangeSpec := { name := "serveSnapshots", fn := fun _ => fun
  | [d1, d2, d3] => { results := [.lit (.bool true)], args := [d1, d2, d3] }
  | _ => none }
def serveSnapshotsRow : OpenClaim := { program := "ytckfladlgbjnhaagreat", sum := "7eb88b0a4ebead4a99c5e4d453183249205f4f2a47cc3b65c5c15ac73f36366e", func := "noria/norialaw26.ServeSnapshots", spec := "serveSnapshots", inPlace := ["math.archTrunc", "math.Float64bits", "math.Float64frombits"], unfollowed := true, recurses := true, apart := false }
def ServeSnapshotsSaid : Prop := serveSnapshotsRow.holds Tryz.pinned (OpenSpec.ofChange serveSnapshotsSpec)

/-- ITS FALSE NEIGHBOUR: 'it returns false'. Refute it at one input. -/
def serveSnapshotsWrong : ChangeSpec := { name := "serveSnapshots", fn := fun _ => fun
  | [d1, d2, d3] => { results := [.lit (.bool false)], args := [d1, d2, d3] }
  | _ => none }
def ServeSnapshotsWrongFalsely : Prop := serveSnapshotsRow.holds Tryz.pinned (OpenSpec.ofChange serveSnapshotsWrong)

/-- 'norialaw27.WorldHandles': WHATEVER THE INPUT: true; the input reads as it did. -/
def worldHandlesSpec : ChangeSpec := { name := "worldHandles", fn := fun _ => fun
  | [d] => { results := [.lit (.bool true)], args := [d] }
  | _ => none }
def worldHandlesRow : OpenClaim := { program := "ytckfladlgbjnhaagreat", sum := "7eb88b0a4ebead4a99c5e4d453183249205f4f2a47cc3b65c5c15ac73f36366e", func := "noria/norialaw27.WorldHandles", spec := "worldHandles", inPlace := ["math.archTrunc", "math.Float64bits", "math.Float64frombits"], unfollowed := true, recurses := true, apart := false }
def WorldHandlesSaid : Prop := worldHandlesRow.holds Tryz.pinned (OpenSpec.ofChange worldHandlesSpec)

/-- ITS FALSE NEIGHBOUR: 'it returns false'. Refute it at one input. -/
def worldHandlesWrong : ChangeSpec := { name := "worldHandles", fn := fun _ => fun
  | [d] => { results := [.lit (.bool false)], args := [d] }
  | _ => none }
def WorldHandlesWrongFalsely : Prop := worldHandlesRow.holds Tryz.pinned (OpenSpec.ofChange worldHandlesWrong)

/-- 'norialaw27.WorldFalls': WHATEVER THE INPUT: true; the input reads as it did. -/
def worldFallsSpec : ChangeSpec := { name := "worldFalls", fn := fun _ => fun
  | [d1, d2, d3] => { results := [.lit (.bool true)], args := [d1, d2, d3] }
  | _ => none }
def worldFallsRow : OpenClaim := { program := "ytckfladlgbjnhaagreat", sum := "7eb88b0a4ebead4a99c5e4d453183249205f4f2a47cc3b65c5c15ac73f36366e", func := "noria/norialaw27.WorldFalls", spec := "worldFalls", inPlace := ["math.archTrunc", "math.Float64bits", "math.Float64frombits"], unfollowed := true, recurses := true, apart := false }
def WorldFallsSaid : Prop := worldFallsRow.holds Tryz.pinned (OpenSpec.ofChange worldFallsSpec)

/-- ITS FALSE NEIGHBOUR: 'it returns false'. Refute it at one input. -/
def worldFallsWrong : ChangeSpec := { name := "worldFalls", fn := fun _ => fun
  | [d1, d2, d3] => { results := [.lit (.bool false)], args := [d1, d2, d3] }
  | _ => none }
def WorldFallsWrongFalsely : Prop := worldFallsRow.holds Tryz.pinned (OpenSpec.ofChange worldFallsWrong)

/-- 'norialaw28.DayDown': WHATEVER THE INPUT: true; the input reads as it did. -/
def dayDownSpec : ChangeSpec := { name := "dayDown", fn := fun _ => fun
  | [d1, d2] => { results := [.lit (.bool true)], args := [d1, d2] }
  | _ => none }
def dayDownRow : OpenClaim := { program := "ytckfladlgbjnhaagreat", sum := "7eb88b0a4ebead4a99c5e4d453183249205f4f2a47cc3b65c5c15ac73f36366e", func := "noria/norialaw28.DayDown", spec := "dayDown", inPlace := ["math.archTrunc", "math.Float64bits", "math.Float64frombits"], unfollowed := true, recurses := true, apart := false }
def DayDownSaid : Prop := dayDownRow.holds Tryz.pinned (OpenSpec.ofChange dayDownSpec)

/-- ITS FALSE NEIGHBOUR: 'it returns false'. Refute it at one input. -/
def dayDownWrong : ChangeSpec := { name := "dayDown", fn := fun _ => fun
  | [d1, d2] => { results := [.lit (.bool false)], args := [d1, d2] }
  | _ => none }
def DayDownWrongFalsely : Prop := dayDownRow.holds Tryz.pinned (OpenSpec.ofChange dayDownWrong)

/-- 'norialaw28.DayUnder': WHATEVER THE INPUT: true; the input reads as it did. -/
def dayUnderSpec : ChangeSpec := { name := "dayUnder", fn := fun _ => fun
  | [d1, d2] => { results := [.lit (.bool true)], args := [d1, d2] }
  | _ => none }
def dayUnderRow : OpenClaim := { program := "ytckfladlgbjnhaagreat", sum := "7eb88b0a4ebead4a99c5e4d453183249205f4f2a47cc3b65c5c15ac73f36366e", func := "noria/norialaw28.DayUnder", spec := "dayUnder", inPlace := ["math.archTrunc", "math.Float64bits", "math.Float64frombits"], unfollowed := true, recurses := true, apart := false }
def DayUnderSaid : Prop := dayUnderRow.holds Tryz.pinned (OpenSpec.ofChange dayUnderSpec)

/-- ITS FALSE NEIGHBOUR: 'it returns false'. Refute it at one input. -/
def dayUnderWrong : ChangeSpec := { name := "dayUnder", fn := fun _ => fun
  | [d1, d2] => { results := [.lit (.bool false)], args := [d1, d2] }
  | _ => none }
def DayUnderWrongFalsely : Prop := dayUnderRow.holds Tryz.pinned (OpenSpec.ofChange dayUnderWrong)

/- THE SECOND FORM. 'bulk': how many values and letters a reading holds, each counted each time it is reached (what is shared counts as often as it is met; a slice's spare places count too). A statement '..UptoSaid' is the law's where the arguments, and the package variables that the reading takes, are together of bulk at most 1048576: NARROWER than '..Said'. Prove '..Said' where nothing that the law and all that it calls make is longer than what came in: it says more and counts as full. Else prove '..UptoSaid'. A law counts once. -/
mutual
def uptoBulk {H : Type} : DataW H → Nat
  | .lit (.string bytes) => bytes.length + 1
  | .lit _ => 1
  | .nil => 1
  | .ptr d => uptoBulk d + 1
  | .slice elems spare => uptoBulkAll elems + uptoBulkAll spare + 1
  | .agg parts => uptoBulkAll parts + 1
  | .iface _ d => uptoBulk d + 1
  | .map entries => uptoBulkEntries entries + 1
  | .held _ => 1
def uptoBulkAll {H : Type} : List (DataW H) → Nat
  | [] => 0
  | d :: r => uptoBulk d + uptoBulkAll r
def uptoBulkEntries {H : Type} : List (Lit × DataW H) → Nat
  | [] => 0
  | x :: r => uptoBulkEntry x + uptoBulkEntries r
def uptoBulkEntry {H : Type} : Lit × DataW H → Nat
  | (.string bytes, d) => bytes.length + uptoBulk d + 1
  | (_, d) => uptoBulk d + 1
 end
def uptoSmall : (H : Type) → List (DataW H) → Bool := fun _ ds => decide (uptoBulkAll ds ≤ 1048576)
def OpenSpec.upto (s : _root_.Go.ChangeSpec) : _root_.Go.OpenSpec := { _root_.Go.OpenSpec.ofChange s with cond := some uptoSmall }

/-- 'norialaw18.PubKeeps', WHERE WHAT IT READS IS OF BULK AT MOST 1048576: true; the input reads as it did. -/
def pubKeepsUptoRow : OpenClaim := { program := "ytckfladlgbjnhaagreat", sum := "7eb88b0a4ebead4a99c5e4d453183249205f4f2a47cc3b65c5c15ac73f36366e", func := "noria/norialaw18.PubKeeps", spec := "pubKeeps", inPlace := ["math.archTrunc", "math.Float64bits", "math.Float64frombits"], unfollowed := true, recurses := true, apart := false, narrowed := true }
def PubKeepsUptoSaid : Prop := pubKeepsUptoRow.holds Tryz.pinned (OpenSpec.upto pubKeepsSpec)

/-- 'norialaw18.PubTwins', WHERE WHAT IT READS IS OF BULK AT MOST 1048576: true; the input reads as it did. -/
def pubTwinsUptoRow : OpenClaim := { program := "ytckfladlgbjnhaagreat", sum := "7eb88b0a4ebead4a99c5e4d453183249205f4f2a47cc3b65c5c15ac73f36366e", func := "noria/norialaw18.PubTwins", spec := "pubTwins", inPlace := ["math.archTrunc", "math.Float64bits", "math.Float64frombits"], unfollowed := true, recurses := true, apart := false, narrowed := true }
def PubTwinsUptoSaid : Prop := pubTwinsUptoRow.holds Tryz.pinned (OpenSpec.upto pubTwinsSpec)

/-- 'norialaw24.TableTwo', WHERE WHAT IT READS IS OF BULK AT MOST 1048576: true; the input reads as it did. -/
def tableTwoUptoRow : OpenClaim := { program := "ytckfladlgbjnhaagreat", sum := "7eb88b0a4ebead4a99c5e4d453183249205f4f2a47cc3b65c5c15ac73f36366e", func := "noria/norialaw24.TableTwo", spec := "tableTwo", inPlace := ["math.archTrunc", "math.Float64bits", "math.Float64frombits"], unfollowed := true, recurses := true, apart := false, narrowed := true }
def TableTwoUptoSaid : Prop := tableTwoUptoRow.holds Tryz.pinned (OpenSpec.upto tableTwoSpec)

/-- 'norialaw26.ServeMany', WHERE WHAT IT READS IS OF BULK AT MOST 1048576: true; the input reads as it did. -/
def serveManyUptoRow : OpenClaim := { program := "ytckfladlgbjnhaagreat", sum := "7eb88b0a4ebead4a99c5e4d453183249205f4f2a47cc3b65c5c15ac73f36366e", func := "noria/norialaw26.ServeMany", spec := "serveMany", inPlace := ["math.archTrunc", "math.Float64bits", "math.Float64frombits"], unfollowed := true, recurses := true, apart := false, narrowed := true }
def ServeManyUptoSaid : Prop := serveManyUptoRow.holds Tryz.pinned (OpenSpec.upto serveManySpec)

/-- 'norialaw26.ServeLeaves', WHERE WHAT IT READS IS OF BULK AT MOST 1048576: true; the input reads as it did. -/
def serveLeavesUptoRow : OpenClaim := { program := "ytckfladlgbjnhaagreat", sum := "7eb88b0a4ebead4a99c5e4d453183249205f4f2a47cc3b65c5c15ac73f36366e", func := "noria/norialaw26.ServeLeaves", spec := "serveLeaves", inPlace := ["math.archTrunc", "math.Float64bits", "math.Float64frombits"], unfollowed := true, recurses := true, apart := false, narrowed := true }
def ServeLeavesUptoSaid : Prop := serveLeavesUptoRow.holds Tryz.pinned (OpenSpec.upto serveLeavesSpec)

/-- 'norialaw26.ServeWaits', WHERE WHAT IT READS IS OF BULK AT MOST 1048576: true; the input reads as it did. -/
def serveWaitsUptoRow : OpenClaim := { program := "ytckfladlgbjnhaagreat", sum := "7eb88b0a4ebead4a99c5e4d453183249205f4f2a47cc3b65c5c15ac73f36366e", func := "noria/norialaw26.ServeWaits", spec := "serveWaits", inPlace := ["math.archTrunc", "math.Float64bits", "math.Float64frombits"], unfollowed := true, recurses := true, apart := false, narrowed := true }
def ServeWaitsUptoSaid : Prop := serveWaitsUptoRow.holds Tryz.pinned (OpenSpec.upto serveWaitsSpec)

/-- 'norialaw26.ServeSnapshots', WHERE WHAT IT READS IS OF BULK AT MOST 1048576: true; the input reads as it did. -/
def serveSnapshotsUptoRow : OpenClaim := { program := "ytckfladlgbjnhaagreat", sum := "7eb88b0a4ebead4a99c5e4d453183249205f4f2a47cc3b65c5c15ac73f36366e", func := "noria/norialaw26.ServeSnapshots", spec := "serveSnapshots", inPlace := ["math.archTrunc", "math.Float64bits", "math.Float64frombits"], unfollowed := true, recurses := true, apart := false, narrowed := true }
def ServeSnapshotsUptoSaid : Prop := serveSnapshotsUptoRow.holds Tryz.pinned (OpenSpec.upto serveSnapshotsSpec)

/-- 'norialaw27.WorldHandles', WHERE WHAT IT READS IS OF BULK AT MOST 1048576: true; the input reads as it did. -/
def worldHandlesUptoRow : OpenClaim := { program := "ytckfladlgbjnhaagreat", sum := "7eb88b0a4ebead4a99c5e4d453183249205f4f2a47cc3b65c5c15ac73f36366e", func := "noria/norialaw27.WorldHandles", spec := "worldHandles", inPlace := ["math.archTrunc", "math.Float64bits", "math.Float64frombits"], unfollowed := true, recurses := true, apart := false, narrowed := true }
def WorldHandlesUptoSaid : Prop := worldHandlesUptoRow.holds Tryz.pinned (OpenSpec.upto worldHandlesSpec)

/-- 'norialaw27.WorldFalls', WHERE WHAT IT READS IS OF BULK AT MOST 1048576: true; the input reads as it did. -/
def worldFallsUptoRow : OpenClaim := { program := "ytckfladlgbjnhaagreat", sum := "7eb88b0a4ebead4a99c5e4d453183249205f4f2a47cc3b65c5c15ac73f36366e", func := "noria/norialaw27.WorldFalls", spec := "worldFalls", inPlace := ["math.archTrunc", "math.Float64bits", "math.Float64frombits"], unfollowed := true, recurses := true, apart := false, narrowed := true }
def WorldFallsUptoSaid : Prop := worldFallsUptoRow.holds Tryz.pinned (OpenSpec.upto worldFallsSpec)

/-- 'norialaw28.DayDown', WHERE WHAT IT READS IS OF BULK AT MOST 1048576: true; the input reads as it did. -/
def dayDownUptoRow : OpenClaim := { program := "ytckfladlgbjnhaagreat", sum := "7eb88b0a4ebead4a99c5e4d453183249205f4f2a47cc3b65c5c15ac73f36366e", func := "noria/norialaw28.DayDown", spec := "dayDown", inPlace := ["math.archTrunc", "math.Float64bits", "math.Float64frombits"], unfollowed := true, recurses := true, apart := false, narrowed := true }
def DayDownUptoSaid : Prop := dayDownUptoRow.holds Tryz.pinned (OpenSpec.upto dayDownSpec)

/-- 'norialaw28.DayUnder', WHERE WHAT IT READS IS OF BULK AT MOST 1048576: true; the input reads as it did. -/
def dayUnderUptoRow : OpenClaim := { program := "ytckfladlgbjnhaagreat", sum := "7eb88b0a4ebead4a99c5e4d453183249205f4f2a47cc3b65c5c15ac73f36366e", func := "noria/norialaw28.DayUnder", spec := "dayUnder", inPlace := ["math.archTrunc", "math.Float64bits", "math.Float64frombits"], unfollowed := true, recurses := true, apart := false, narrowed := true }
def DayUnderUptoSaid : Prop := dayUnderUptoRow.holds Tryz.pinned (OpenSpec.upto dayUnderSpec)

end Rows
end Go.Proofs.YtckfladlgbjnhaaGreat
