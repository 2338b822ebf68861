/-
  No cell of these rows narrows 'for every input' (looked for: loops, veiled, ifaces, maps, wideKeys, modest, calm, conditions, laid).
  DERIVED. THE GIVEN ROWS OF THIS SEAT. 7 by the template 'for every input the law returns true; each argument reads behind the call as it read before'; 0 by the template 'total and deterministic' (their statements: YtlemialjfnbchaaTotals.lean).
  GIVEN WITH THE SEED: the statements are not yours to turn. If you find one false, say at which input.
  Laid BY PROGRAM, IN A SANDBOX (cutbox-rows.mjs): the forced cells as the released guide's own fill.sh prints them over the translation 2a262c9a1d337986… (all of the seat's roots in one cut). By AI agents, Wed Nov 11 2026. No macro, syntax, notation, axiom, sorry.
-/
import Derived.Test.YtlemialjfnbchaaChecked
import GoSem.Claim
import GoSem.ClaimJoined
import GoSem.ClaimMapViews
import Derived.JoinedTies
import Derived.KernelRfl
namespace Go.Proofs.Ytlemialjfnbchaa
/- THE CELL 'sum', in the pinned program and in every row, IS THE sha256 OF THE DUMP (.gsa) THAT YtlemialjfnbchaaProg.lean LOADS. Nothing in Lean hashes anything: it is a label: what it is worth is what the hold of that sum in a sandbox is worth. -/
noncomputable def Try.pinned : Pinned := { name := "ytlemialjfnbchaa", sum := "2a262c9a1d33798639a9c49a59d074fb7c39db012d2268ccb8a4d0d79b0863c0", checked := Try.checked }
namespace Rows
def none {H : Type} : Left H := { results := [], args := [] }

/-- 'norialaw16.FootMany': WHATEVER THE INPUT: true; the input reads as it did. -/
def footManySpec : ChangeSpec := { name := "footMany", fn := fun _ => fun
  | [d1, d2] => { results := [.lit (.bool true)], args := [d1, d2] }
  | _ => none }
def footManyRow : OpenClaim := { program := "ytlemialjfnbchaa", sum := "2a262c9a1d33798639a9c49a59d074fb7c39db012d2268ccb8a4d0d79b0863c0", func := "noria/norialaw16.FootMany", spec := "footMany", inPlace := ["math.archTrunc", "math.Float64bits", "math.Float64frombits"], unfollowed := true, recurses := true, apart := false }
def FootManySaid : Prop := footManyRow.holds Try.pinned (OpenSpec.ofChange footManySpec)

/-- ITS FALSE NEIGHBOUR: 'it returns false'. Refute it at one input. -/
def footManyWrong : ChangeSpec := { name := "footMany", fn := fun _ => fun
  | [d1, d2] => { results := [.lit (.bool false)], args := [d1, d2] }
  | _ => none }
def FootManyWrongFalsely : Prop := footManyRow.holds Try.pinned (OpenSpec.ofChange footManyWrong)

/-- 'norialaw7.DictPuts': WHATEVER THE INPUT: true; the input reads as it did. -/
def dictPutsSpec : ChangeSpec := { name := "dictPuts", fn := fun _ => fun
  | [d] => { results := [.lit (.bool true)], args := [d] }
  | _ => none }
def dictPutsRow : OpenClaim := { program := "ytlemialjfnbchaa", sum := "2a262c9a1d33798639a9c49a59d074fb7c39db012d2268ccb8a4d0d79b0863c0", func := "noria/norialaw7.DictPuts", spec := "dictPuts", unfollowed := true, recurses := true, apart := false }
def DictPutsSaid : Prop := dictPutsRow.holds Try.pinned (OpenSpec.ofChange dictPutsSpec)

/-- ITS FALSE NEIGHBOUR: 'it returns false'. Refute it at one input. -/
def dictPutsWrong : ChangeSpec := { name := "dictPuts", fn := fun _ => fun
  | [d] => { results := [.lit (.bool false)], args := [d] }
  | _ => none }
def DictPutsWrongFalsely : Prop := dictPutsRow.holds Try.pinned (OpenSpec.ofChange dictPutsWrong)

/-- 'norialaw7.DictOrder': WHATEVER THE INPUT: true; the input reads as it did. -/
def dictOrderSpec : ChangeSpec := { name := "dictOrder", fn := fun _ => fun
  | [d] => { results := [.lit (.bool true)], args := [d] }
  | _ => none }
def dictOrderRow : OpenClaim := { program := "ytlemialjfnbchaa", sum := "2a262c9a1d33798639a9c49a59d074fb7c39db012d2268ccb8a4d0d79b0863c0", func := "noria/norialaw7.DictOrder", spec := "dictOrder", unfollowed := true, recurses := true, apart := false }
def DictOrderSaid : Prop := dictOrderRow.holds Try.pinned (OpenSpec.ofChange dictOrderSpec)

/-- ITS FALSE NEIGHBOUR: 'it returns false'. Refute it at one input. -/
def dictOrderWrong : ChangeSpec := { name := "dictOrder", fn := fun _ => fun
  | [d] => { results := [.lit (.bool false)], args := [d] }
  | _ => none }
def DictOrderWrongFalsely : Prop := dictOrderRow.holds Try.pinned (OpenSpec.ofChange dictOrderWrong)

/-- 'norialaw7.DictLong': WHATEVER THE INPUT: true; the input reads as it did. -/
def dictLongSpec : ChangeSpec := { name := "dictLong", fn := fun _ => fun
  | [d1, d2] => { results := [.lit (.bool true)], args := [d1, d2] }
  | _ => none }
def dictLongRow : OpenClaim := { program := "ytlemialjfnbchaa", sum := "2a262c9a1d33798639a9c49a59d074fb7c39db012d2268ccb8a4d0d79b0863c0", func := "noria/norialaw7.DictLong", spec := "dictLong", unfollowed := true, recurses := true, apart := false }
def DictLongSaid : Prop := dictLongRow.holds Try.pinned (OpenSpec.ofChange dictLongSpec)

/-- ITS FALSE NEIGHBOUR: 'it returns false'. Refute it at one input. -/
def dictLongWrong : ChangeSpec := { name := "dictLong", fn := fun _ => fun
  | [d1, d2] => { results := [.lit (.bool false)], args := [d1, d2] }
  | _ => none }
def DictLongWrongFalsely : Prop := dictLongRow.holds Try.pinned (OpenSpec.ofChange dictLongWrong)

/-- 'norialaw19.PoolHolds': WHATEVER THE INPUT: true; the input reads as it did. -/
def poolHoldsSpec : ChangeSpec := { name := "poolHolds", fn := fun _ => fun
  | [d1, d2, d3] => { results := [.lit (.bool true)], args := [d1, d2, d3] }
  | _ => none }
def poolHoldsRow : OpenClaim := { program := "ytlemialjfnbchaa", sum := "2a262c9a1d33798639a9c49a59d074fb7c39db012d2268ccb8a4d0d79b0863c0", func := "noria/norialaw19.PoolHolds", spec := "poolHolds", unfollowed := true, recurses := true, apart := false }
def PoolHoldsSaid : Prop := poolHoldsRow.holds Try.pinned (OpenSpec.ofChange poolHoldsSpec)

/-- ITS FALSE NEIGHBOUR: 'it returns false'. Refute it at one input. -/
def poolHoldsWrong : ChangeSpec := { name := "poolHolds", fn := fun _ => fun
  | [d1, d2, d3] => { results := [.lit (.bool false)], args := [d1, d2, d3] }
  | _ => none }
def PoolHoldsWrongFalsely : Prop := poolHoldsRow.holds Try.pinned (OpenSpec.ofChange poolHoldsWrong)

/-- 'norialaw19.PoolAges': WHATEVER THE INPUT: true; the input reads as it did. -/
def poolAgesSpec : ChangeSpec := { name := "poolAges", fn := fun _ => fun
  | [d1, d2] => { results := [.lit (.bool true)], args := [d1, d2] }
  | _ => none }
def poolAgesRow : OpenClaim := { program := "ytlemialjfnbchaa", sum := "2a262c9a1d33798639a9c49a59d074fb7c39db012d2268ccb8a4d0d79b0863c0", func := "noria/norialaw19.PoolAges", spec := "poolAges", unfollowed := true, recurses := true, apart := false }
def PoolAgesSaid : Prop := poolAgesRow.holds Try.pinned (OpenSpec.ofChange poolAgesSpec)

/-- ITS FALSE NEIGHBOUR: 'it returns false'. Refute it at one input. -/
def poolAgesWrong : ChangeSpec := { name := "poolAges", fn := fun _ => fun
  | [d1, d2] => { results := [.lit (.bool false)], args := [d1, d2] }
  | _ => none }
def PoolAgesWrongFalsely : Prop := poolAgesRow.holds Try.pinned (OpenSpec.ofChange poolAgesWrong)

/-- 'norialaw17.SuperGreater': WHATEVER THE INPUT: true; the input reads as it did. -/
def superGreaterSpec : ChangeSpec := { name := "superGreater", fn := fun _ => fun
  | [d1, d2, d3] => { results := [.lit (.bool true)], args := [d1, d2, d3] }
  | _ => none }
def superGreaterRow : OpenClaim := { program := "ytlemialjfnbchaa", sum := "2a262c9a1d33798639a9c49a59d074fb7c39db012d2268ccb8a4d0d79b0863c0", func := "noria/norialaw17.SuperGreater", spec := "superGreater", inPlace := ["math.archTrunc", "math.Float64bits", "math.Float64frombits"], unfollowed := true, recurses := true, apart := false }
def SuperGreaterSaid : Prop := superGreaterRow.holds Try.pinned (OpenSpec.ofChange superGreaterSpec)

/-- ITS FALSE NEIGHBOUR: 'it returns false'. Refute it at one input. -/
def superGreaterWrong : ChangeSpec := { name := "superGreater", fn := fun _ => fun
  | [d1, d2, d3] => { results := [.lit (.bool false)], args := [d1, d2, d3] }
  | _ => none }
def SuperGreaterWrongFalsely : Prop := superGreaterRow.holds Try.pinned (OpenSpec.ofChange superGreaterWrong)

/- THE SECOND FORM. 'bulk': how many values and letters a reading holds, each counted each time it is reached (what is shared counts as often as it is met; a slice's spare places count too). A statement '..UptoSaid' is the law's where the arguments, and the package variables that the reading takes, are together of bulk at most 1048576: NARROWER than '..Said'. Prove '..Said' where nothing that the law and all that it calls make is longer than what came in: it says more and counts as full. Else prove '..UptoSaid'. A law counts once. -/
mutual
def uptoBulk {H : Type} : DataW H → Nat
  | .lit (.string bytes) => bytes.length + 1
  | .lit _ => 1
  | .nil => 1
  | .ptr d => uptoBulk d + 1
  | .slice elems spare => uptoBulkAll elems + uptoBulkAll spare + 1
  | .agg parts => uptoBulkAll parts + 1
  | .iface _ d => uptoBulk d + 1
  | .map entries => uptoBulkEntries entries + 1
  | .held _ => 1
def uptoBulkAll {H : Type} : List (DataW H) → Nat
  | [] => 0
  | d :: r => uptoBulk d + uptoBulkAll r
def uptoBulkEntries {H : Type} : List (Lit × DataW H) → Nat
  | [] => 0
  | x :: r => uptoBulkEntry x + uptoBulkEntries r
def uptoBulkEntry {H : Type} : Lit × DataW H → Nat
  | (.string bytes, d) => bytes.length + uptoBulk d + 1
  | (_, d) => uptoBulk d + 1
 end
def uptoSmall : (H : Type) → List (DataW H) → Bool := fun _ ds => decide (uptoBulkAll ds ≤ 1048576)
def OpenSpec.upto (s : _root_.Go.ChangeSpec) : _root_.Go.OpenSpec := { _root_.Go.OpenSpec.ofChange s with cond := some uptoSmall }

/-- 'norialaw16.FootMany', WHERE WHAT IT READS IS OF BULK AT MOST 1048576: true; the input reads as it did. -/
def footManyUptoRow : OpenClaim := { program := "ytlemialjfnbchaa", sum := "2a262c9a1d33798639a9c49a59d074fb7c39db012d2268ccb8a4d0d79b0863c0", func := "noria/norialaw16.FootMany", spec := "footMany", inPlace := ["math.archTrunc", "math.Float64bits", "math.Float64frombits"], unfollowed := true, recurses := true, apart := false, narrowed := true }
def FootManyUptoSaid : Prop := footManyUptoRow.holds Try.pinned (OpenSpec.upto footManySpec)

/-- 'norialaw7.DictPuts', WHERE WHAT IT READS IS OF BULK AT MOST 1048576: true; the input reads as it did. -/
def dictPutsUptoRow : OpenClaim := { program := "ytlemialjfnbchaa", sum := "2a262c9a1d33798639a9c49a59d074fb7c39db012d2268ccb8a4d0d79b0863c0", func := "noria/norialaw7.DictPuts", spec := "dictPuts", unfollowed := true, recurses := true, apart := false, narrowed := true }
def DictPutsUptoSaid : Prop := dictPutsUptoRow.holds Try.pinned (OpenSpec.upto dictPutsSpec)

/-- 'norialaw7.DictOrder', WHERE WHAT IT READS IS OF BULK AT MOST 1048576: true; the input reads as it did. -/
def dictOrderUptoRow : OpenClaim := { program := "ytlemialjfnbchaa", sum := "2a262c9a1d33798639a9c49a59d074fb7c39db012d2268ccb8a4d0d79b0863c0", func := "noria/norialaw7.DictOrder", spec := "dictOrder", unfollowed := true, recurses := true, apart := false, narrowed := true }
def DictOrderUptoSaid : Prop := dictOrderUptoRow.holds Try.pinned (OpenSpec.upto dictOrderSpec)

/-- 'norialaw7.DictLong', WHERE WHAT IT READS IS OF BULK AT MOST 1048576: true; the input reads as it did. -/
def dictLongUptoRow : OpenClaim := { program := "ytlemialjfnbchaa", sum := "2a262c9a1d33798639a9c49a59d074fb7c39db012d2268ccb8a4d0d79b0863c0", func := "noria/norialaw7.DictLong", spec := "dictLong", unfollowed := true, recurses := true, apart := false, narrowed := true }
def DictLongUptoSaid : Prop := dictLongUptoRow.holds Try.pinned (OpenSpec.upto dictLongSpec)

/-- 'norialaw19.PoolHolds', WHERE WHAT IT READS IS OF BULK AT MOST 1048576: true; the input reads as it did. -/
def poolHoldsUptoRow : OpenClaim := { program := "ytlemialjfnbchaa", sum := "2a262c9a1d33798639a9c49a59d074fb7c39db012d2268ccb8a4d0d79b0863c0", func := "noria/norialaw19.PoolHolds", spec := "poolHolds", unfollowed := true, recurses := true, apart := false, narrowed := true }
def PoolHoldsUptoSaid : Prop := poolHoldsUptoRow.holds Try.pinned (OpenSpec.upto poolHoldsSpec)

/-- 'norialaw19.PoolAges', WHERE WHAT IT READS IS OF BULK AT MOST 1048576: true; the input reads as it did. -/
def poolAgesUptoRow : OpenClaim := { program := "ytlemialjfnbchaa", sum := "2a262c9a1d33798639a9c49a59d074fb7c39db012d2268ccb8a4d0d79b0863c0", func := "noria/norialaw19.PoolAges", spec := "poolAges", unfollowed := true, recurses := true, apart := false, narrowed := true }
def PoolAgesUptoSaid : Prop := poolAgesUptoRow.holds Try.pinned (OpenSpec.upto poolAgesSpec)

/-- 'norialaw17.SuperGreater', WHERE WHAT IT READS IS OF BULK AT MOST 1048576: true; the input reads as it did. -/
def superGreaterUptoRow : OpenClaim := { program := "ytlemialjfnbchaa", sum := "2a262c9a1d33798639a9c49a59d074fb7c39db012d2268ccb8a4d0d79b0863c0", func := "noria/norialaw17.SuperGreater", spec := "superGreater", inPlace := ["math.archTrunc", "math.Float64bits", "math.Float64frombits"], unfollowed := true, recurses := true, apart := false, narrowed := true }
def SuperGreaterUptoSaid : Prop := superGreaterUptoRow.holds Try.pinned (OpenSpec.upto superGreaterSpec)

end Rows
end Go.Proofs.Ytlemialjfnbchaa
