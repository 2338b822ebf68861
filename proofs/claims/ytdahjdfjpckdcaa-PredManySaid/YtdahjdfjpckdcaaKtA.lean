/- Values that are numbers: names. -/
import Derived.Test.YtdahjdfjpckdcaaVmM
import Derived.KernelRfl
import Derived.Test.YtdahjdfjpckdcaaProg
namespace Go.Proofs.Ytdahjdfjpckdcaa
open Go Go.Vm
abbrev sE : AV := .p (.string { data := { toList := [] } })
abbrev cZ : AV := .p (.complex .f64 0 0)
abbrev wN (n : Int) : AV := .p (.int .i64 n)
abbrev wB (b : Bool) : AV := .p (.bool b)
abbrev valC (n : Int) : List AV := [wN 1, wN n, sE, cZ]
abbrev nulC : List AV := [wN 0, wN 0, sE, cZ]
def cmp3 (a b : Int) : Int := if a < b then -1 else if a > b then 1 else 0
def m0' : Vm.Mode := ⟨fun _ => false, fun _ => none⟩
end Go.Proofs.Ytdahjdfjpckdcaa
namespace Go.Proofs.Ytdahjdfjpckdcaa
open Go Go.Vm
abbrev nilS : AV := .p (.slice none 0 0)
/-- a comparison of column 0 with a number -/
abbrev leafC (op v : Int) : List AV := [wN op, wN 0, wN 1, wN v, sE, cZ, cZ, cZ, nilS]
/-- a predicate of kids -/
abbrev nodeC (op : Int) (kids : AV) : List AV := [wN op, wN 0, wN 0, wN 0, sE, cZ, cZ, cZ, kids]
/-- a column of numbers from low to high -/
abbrev statC (rows nulls low high : Int) : List AV := [wN 1, wN rows, wN nulls, wN 1, wN low, sE, cZ, wN 1, wN high, sE, cZ, cZ, cZ]
def setI (y n : Bool) : Int := (if y then 2 else 0) + (if n then 1 else 0)
def valI (op c d : Int) : Int :=
  if op = 1 then setI (decide (c ≤ 0) && decide (d ≥ 0)) (decide (c ≠ 0) || decide (d ≠ 0))
  else if op = 2 then setI (decide (c ≠ 0) || decide (d ≠ 0)) (decide (c ≤ 0) && decide (d ≥ 0))
  else if op = 3 then setI (decide (c < 0)) (decide (d ≥ 0))
  else if op = 4 then setI (decide (c ≤ 0)) (decide (d > 0))
  else if op = 5 then setI (decide (d > 0)) (decide (c ≤ 0))
  else setI (decide (d ≥ 0)) (decide (c < 0))
def maskI (op c d nulls : Int) : Int := (if nulls > 0 then 4 else 0) + valI op c d
def ops6 : List Int := [1, 2, 3, 4, 5, 6]
def cs3 : List Int := [-1, 0, 1]
def cases3 : List (Int × Int × Int) := ops6.flatMap fun o => cs3.flatMap fun c => cs3.map fun d => (o, c, d)
end Go.Proofs.Ytdahjdfjpckdcaa
