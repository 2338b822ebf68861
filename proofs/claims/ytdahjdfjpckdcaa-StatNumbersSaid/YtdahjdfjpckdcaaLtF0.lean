/- What a column has: names. -/
import Derived.Test.YtdahjdfjpckdcaaLtE
namespace Go.Proofs.Ytdahjdfjpckdcaa
open Go Go.Vm
set_option maxRecDepth 100000
open Classical in
/-- a contract of one call -/
noncomputable def oneC (A : List AV) (v : AV) : List AV → List Blk → Option (AV × List Blk) := fun args hp => if args = A ∧ hp = [] then some (v, []) else none
theorem of_oneC {f : FuncId} {A : List AV} {v : AV} (h : FnOk Try.prog f A [] v []) {args : List AV} {hp hp' : List Blk} {r : AV} (k : oneC A v args hp = some (r, hp')) : FnOk Try.prog f args hp r hp' := by
  unfold oneC at k
  split at k
  · rename_i e; obtain ⟨rfl, rfl⟩ := e; cases k; exact h
  · cases k
theorem oneC_eq (A : List AV) (v : AV) : outF (oneC A v A []) = v := by
  unfold oneC
  rw [if_pos ⟨rfl, rfl⟩]; rfl
abbrev OvF := List AV → List Blk → Option (AV × List Blk)
def mG (F38 F40 F42 : OvF) : Vm.Mode := ⟨fun _ => false, fun f => cond (Nat.beq f 38) (some F38) (cond (Nat.beq f 40) (some F40) (cond (Nat.beq f 42) (some F42) none))⟩
noncomputable abbrev hV (A B C : OvF) := orV Try.prog (mG A B C) 60
noncomputable abbrev hS (A B C : OvF) := orS Try.prog (mG A B C) 60
noncomputable def sf : Code := bodyOf Try.f17
noncomputable def sfB : Code := cI (cI (cR (cL (cN 5 sf))))
theorem sf_eq : sf = seqs (first 5 sf) (.seq (.seq (cL (cL (cN 5 sf))) (.block 0 (.loop sfB))) (seqs [cL (cN 6 sf), cL (cN 7 sf)] .ret)) := by kernel_rfl
theorem sfB_eq : sfB = seqs (first 3 sfB) (cN 3 sfB) := by kernel_rfl
abbrev zS : Blk := bC' [wN 0, wN 0, wN 0, wN 0, wN 0, sE, cZ, wN 0, wN 0, sE, cZ, cZ, cZ]
abbrev statZ (a nl : Int) : List AV := [wN 1, wN a, wN nl, wN 0, wN 0, sE, cZ, wN 0, wN 0, sE, cZ, cZ, cZ]
abbrev sB' (a nl : Nat) : Blk := bC' (statZ (Int.ofNat a) (Int.ofNat nl))
abbrev ptB (k g : Nat) : Blk := { cells := List.replicate k cZ, esz := 1, gen := g, row := true, ro := false }
abbrev rwB (xs : List AV) (g : Nat) (ro : Bool) : Blk := { cells := xs, esz := 4, gen := g, row := true, ro := ro }
theorem sz32 : szT Try.prog 32 = some 1 := by kernel_rfl
theorem bytes32 : bytesT Try.prog 32 = some 16 := by kernel_rfl
theorem zero32 : zeroT Try.prog 32 = some (.complex .f64 0 0) := by kernel_rfl
theorem elem93 : elemT Try.prog 93 = some 32 := by kernel_rfl
theorem src93 : (srcT Try.prog 93 1 (.lit 1 [cZ]) && Nat.ble 1 1 && Nat.ble 1 16 && Nat.beq (cellsA (abs1 (Value.complex .f64 0 0))).length 1 && Nat.beq [cZ].length (1 * 1) && [cZ].all imm0 && [cZ].all one) = true := by kernel_rfl
theorem app93 {hp : List Blk} {i g k : Nat} (hb : hp[i]? = some (ptB k g)) (hlt : k < 1000) :
    appendV Try.prog hp 93 93 (.ref i g 0 k) (.lit 1 [cZ]) = some (.val (.ref i (g + 1) 0 (k + 1)) (hp.set i (ptB (k + 1) (g + 1)))) := by
  have := append_ref (P := Try.prog) (hp := hp) (st := 93) (xt := 93) (i := i) (g := g) (n := k) (m := 1) (x := .lit 1 [cZ]) (new := [cZ]) elem93 sz32 bytes32 zero32 rfl src93 hb rfl rfl rfl rfl (by omega) (by simp)
  rw [this]
  simp only [ptB]
  rw [show List.replicate k cZ ++ [cZ] = List.replicate (k + 1) cZ from by rw [List.replicate_succ']]
def numN : List (Option Int) → List Int
  | [] => []
  | some n :: r => n :: numN r
  | none :: r => numN r
def nulN : List (Option Int) → Nat
  | [] => 0
  | some _ :: r => nulN r
  | none :: r => nulN r + 1
theorem numN_app : ∀ (l : List (Option Int)) (o : Option Int), numN (l ++ [o]) = numN l ++ (match o with | some n => [n] | none => [])
  | [], some n => rfl
  | [], none => rfl
  | some n :: r, o => by simp [numN, numN_app r o]
  | none :: r, o => by simp [numN, numN_app r o]
theorem nulN_app : ∀ (l : List (Option Int)) (o : Option Int), nulN (l ++ [o]) = nulN l + (match o with | some _ => 0 | none => 1)
  | [], some n => rfl
  | [], none => rfl
  | some n :: r, o => by simp [nulN, nulN_app r o]
  | none :: r, o => by simp [nulN, nulN_app r o]; omega
theorem nn_len : ∀ l : List (Option Int), (numN l).length + nulN l = l.length
  | [] => rfl
  | some n :: r => by have := nn_len r; simp [numN, nulN]; omega
  | none :: r => by have := nn_len r; simp [numN, nulN]; omega
/-- what a row of numbers and Nulls has -/
def statO (os : List (Option Int)) : List AV :=
  match numN os with
  | [] => statZ (Int.ofNat os.length) (Int.ofNat (nulN os))
  | n :: r => statC (Int.ofNat os.length) (Int.ofNat (nulN os)) (r.foldl miF n) (r.foldl mxF n)
end Go.Proofs.Ytdahjdfjpckdcaa
