/- Sets of outcomes: turned, and put together. -/
import Derived.Test.YtdahjdfjpckdcaaKtD0
namespace Go.Proofs.Ytdahjdfjpckdcaa
open Go Go.Vm
set_option maxRecDepth 100000
theorem not8 : (eight.map fun p => runV Try.prog m0' 50 43 [wN (Int.ofNat p)] []) = eight.map fun p => some (wN (Int.ofNat (notN p)), []) := by kernel_rfl
theorem and8 : (pairs8.map fun q => runV Try.prog m0' 50 45 [wN (Int.ofNat q.1), wN (Int.ofNat q.2)] []) = pairs8.map fun q => some (wN (Int.ofNat (andN q.1 q.2)), []) := by kernel_rfl
def oNot : List AV → List Blk → Option (AV × List Blk)
  | [.p (.int .i64 (.ofNat a))], [] => cond (Nat.blt a 8) (some (wN (Int.ofNat (notN a)), [])) none
  | _, _ => none
def oAnd : List AV → List Blk → Option (AV × List Blk)
  | [.p (.int .i64 (.ofNat a)), .p (.int .i64 (.ofNat b))], [] => cond (Nat.blt a 8 && Nat.blt b 8) (some (wN (Int.ofNat (andN a b)), [])) none
  | _, _ => none
theorem blt_lt {a b : Nat} (h : Nat.blt a b = true) : a < b := Nat.le_of_ble_eq_true h
theorem of_not {args : List AV} {hp hp' : List Blk} {r : AV} (h : oNot args hp = some (r, hp')) : FnOk Try.prog 43 args hp r hp' := by
  unfold oNot at h
  split at h
  · rename_i a
    cases hc : Nat.blt a 8 with
    | false => rw [hc] at h; cases h
    | true => rw [hc] at h; cases h; exact runV_ok (M := m0') ok0' 50 _ _ _ _ _ (List.map_inj_left.1 not8 a (mem8 (blt_lt hc)))
  · cases h
theorem of_and {args : List AV} {hp hp' : List Blk} {r : AV} (h : oAnd args hp = some (r, hp')) : FnOk Try.prog 45 args hp r hp' := by
  unfold oAnd at h
  split at h
  · rename_i a b
    cases hc : (Nat.blt a 8 && Nat.blt b 8) with
    | false => rw [hc] at h; cases h
    | true =>
      rw [hc] at h; cases h
      rw [Bool.and_eq_true] at hc
      exact runV_ok (M := m0') ok0' 50 _ _ _ _ _ (List.map_inj_left.1 and8 (a, b) (memp (blt_lt hc.1) (blt_lt hc.2)))
  · cases h
def mE : Vm.Mode := ⟨fun _ => false, fun f => cond (Nat.beq f 19) (some oLeaf) (cond (Nat.beq f 43) (some oNot) (cond (Nat.beq f 45) (some oAnd) none))⟩
theorem okE (f : FuncId) (F : List AV → List Blk → Option (AV × List Blk)) (h : mE.ov f = some F) (args : List AV) (hp : List Blk) (r : AV) (hp' : List Blk) (k : F args hp = some (r, hp')) : FnOk Try.prog f args hp r hp' := by
  rcases ov_cond h with ⟨rfl, rfl⟩ | h
  · exact of_leaf k
  rcases ov_cond h with ⟨rfl, rfl⟩ | h
  · exact of_not k
  rcases ov_cond h with ⟨rfl, rfl⟩ | h
  · exact of_and k
  cases h
end Go.Proofs.Ytdahjdfjpckdcaa
