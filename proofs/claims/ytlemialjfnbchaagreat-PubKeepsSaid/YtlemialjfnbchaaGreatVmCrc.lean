/- The sum of a page: bit by bit, in numbers; its rows in the virtual memory. -/
import Derived.Test.YtlemialjfnbchaaGreatVmB

namespace Go.Vm
open Go
/-- one bit of the sum -/
def crcB (s : Nat) : Nat := cond (Nat.beq (s % 2) 1) (Nat.xor (s / 2) 0xEDB88320) (s / 2)
/-- eight bits -/
def crc8 (s : Nat) : Nat := crcB (crcB (crcB (crcB (crcB (crcB (crcB (crcB s)))))))
/-- asks for the number ahead of going on -/
def ask (s : Nat) (k : Nat → Nat) : Nat := Nat.rec (k 0) (fun n _ => k (n + 1)) s
theorem ask_eq (s : Nat) (k : Nat → Nat) : ask s k = k s := by cases s <;> rfl
def crcL : List Nat → Nat → Nat
  | [], s => s
  | x :: r, s => ask (crc8 (Nat.xor s x)) (crcL r)
def crc (l : List Nat) : Nat := Nat.xor (crcL l 0xFFFFFFFF) 0xFFFFFFFF
/-- bytes, as numbers -/
def u8s : List AV → Option (List Nat)
  | [] => some []
  | .p (.int .u8 (.ofNat n)) :: r => cond (Nat.blt n 256) (match u8s r with | some l => some (n :: l) | none => none) none
  | _ => none
def sumV (args : List AV) (hp : List Blk) : Option (AV × List Blk) :=
  match args with
  | [v] => (match frz hp v with
    | some (.lst n xs, _) => cond (Nat.beq xs.length n && Nat.blt n 1000000) (match u8s xs with | some l => some (.p (.int .u32 (crc l)), hp) | none => none) none
    | _ => none)
  | _ => none
end Go.Vm
