/- What may be of comparisons, as a contract. -/
import Derived.Test.YtdahjdfjpckdcaaKtC
namespace Go.Proofs.Ytdahjdfjpckdcaa
open Go Go.Vm
def leafOf : List AV → Option (Int × Int)
  | [.p (.int .i64 op), .p (.int .i64 (.ofNat 0)), .p (.int .i64 (.ofNat 1)), .p (.int .i64 v), .p (.string s), .p (.complex .f64 0 0), .p (.complex .f64 0 0), .p (.complex .f64 0 0), .p (.slice none 0 0)] =>
    cond s.data.toList.isEmpty (some (op, v)) none
  | _ => none
def statOf : AV → Option (Int × Int × Int × Int)
  | .lst 1 [.p (.int .i64 (.ofNat 1)), .p (.int .i64 rows), .p (.int .i64 nulls), .p (.int .i64 (.ofNat 1)), .p (.int .i64 low), .p (.string s), .p (.complex .f64 0 0), .p (.int .i64 (.ofNat 1)), .p (.int .i64 high), .p (.string u), .p (.complex .f64 0 0), .p (.complex .f64 0 0), .p (.complex .f64 0 0)] =>
    cond (s.data.toList.isEmpty && u.data.toList.isEmpty) (some (rows, nulls, low, high)) none
  | _ => none
theorem leafOf_ok {cs : List AV} {op v : Int} (h : leafOf cs = some (op, v)) : cs = leafC op v := by
  unfold leafOf at h
  split at h
  · rename_i o w s
    cases hc : s.data.toList.isEmpty with
    | false => rw [hc] at h; cases h
    | true => rw [hc] at h; cases h; rw [empty_str hc]; rfl
  · cases h
theorem statOf_ok {st : AV} {rows nulls low high : Int} (h : statOf st = some (rows, nulls, low, high)) : st = .lst 1 (statC rows nulls low high) := by
  unfold statOf at h
  split at h
  · rename_i a b c s d u
    cases hc : (s.data.toList.isEmpty && u.data.toList.isEmpty) with
    | false => rw [hc] at h; cases h
    | true => rw [hc] at h; cases h; rw [Bool.and_eq_true] at hc; rw [empty_str hc.1, empty_str hc.2]; rfl
  · cases h
def maskA (cs : List AV) (st : AV) : Option Int :=
  match leafOf cs, statOf st with
  | some (op, v), some (rows, nulls, low, high) => if 1 ≤ op ∧ op ≤ 6 ∧ (nulls = 0 ∨ nulls = 1) ∧ nulls < rows then some (maskI op (cmp3 low v) (cmp3 high v) nulls) else none
  | _, _ => none
theorem maskA_eq {op v rows nulls low high : Int} (h : 1 ≤ op ∧ op ≤ 6 ∧ (nulls = 0 ∨ nulls = 1) ∧ nulls < rows) : maskA (leafC op v) (.lst 1 (statC rows nulls low high)) = some (maskI op (cmp3 low v) (cmp3 high v) nulls) := by
  have e1 : leafOf (leafC op v) = some (op, v) := rfl
  have e2 : statOf (.lst 1 (statC rows nulls low high)) = some (rows, nulls, low, high) := rfl
  unfold maskA
  rw [e1, e2]
  exact if_pos h
theorem maskA_ok {cs : List AV} {st : AV} {m : Int} (h : maskA cs st = some m) : ∃ op v rows nulls low high, cs = leafC op v ∧ st = .lst 1 (statC rows nulls low high) ∧ (1 ≤ op ∧ op ≤ 6 ∧ (nulls = 0 ∨ nulls = 1) ∧ nulls < rows) ∧ m = maskI op (cmp3 low v) (cmp3 high v) nulls := by
  unfold maskA at h
  split at h
  · rename_i op v rows nulls low high e1 e2
    split at h
    · rename_i hc
      cases h
      exact ⟨op, v, rows, nulls, low, high, leafOf_ok e1, statOf_ok e2, hc, rfl⟩
    · cases h
  · cases h
def oLeaf (args : List AV) (hp : List Blk) : Option (AV × List Blk) :=
  match args, hp with
  | [.agg cs, st], [] => (match maskA cs st with | some m => some (wN m, []) | none => none)
  | _, _ => none
theorem of_leaf {args : List AV} {hp hp' : List Blk} {r : AV} (h : oLeaf args hp = some (r, hp')) : FnOk Try.prog 19 args hp r hp' := by
  unfold oLeaf at h
  split at h
  · rename_i cs st
    split at h
    · rename_i m hm
      cases h
      obtain ⟨op, v, rows, nulls, low, high, rfl, rfl, hc, rfl⟩ := maskA_ok hm
      exact leaf_ok hc.1 hc.2.1 hc.2.2.1 hc.2.2.2
    · cases h
  · cases h
theorem oLeaf_eq {cs : List AV} {st : AV} {m : Int} (h : maskA cs st = some m) : outF (oLeaf [.agg cs, st] []) = wN m := by
  unfold oLeaf
  simp only [h]
  rfl
def mD : Vm.Mode := ⟨fun _ => false, fun f => cond (Nat.beq f 19) (some oLeaf) none⟩
theorem okD (f : FuncId) (F : List AV → List Blk → Option (AV × List Blk)) (h : mD.ov f = some F) (args : List AV) (hp : List Blk) (r : AV) (hp' : List Blk) (k : F args hp = some (r, hp')) : FnOk Try.prog f args hp r hp' := by
  rcases ov_cond h with ⟨rfl, rfl⟩ | h
  · exact of_leaf k
  cases h
def notN (a : Nat) : Nat := ((a &&& 4) ||| ((a &&& 1) <<< 1)) ||| ((a &&& 2) >>> 1)
def andN (a b : Nat) : Nat := ((((a ||| b) &&& 1) ||| (cond (Nat.beq (a &&& 2) 0) 0 b)) ||| (cond (Nat.beq (b &&& 2) 0) 0 a)) ||| (a &&& b)
def allN (a b : Nat) : Nat := andN (andN 2 a) b
def anyN (a b : Nat) : Nat := notN (andN (andN 2 (notN a)) (notN b))
def eight : List Nat := [0, 1, 2, 3, 4, 5, 6, 7]
def pairs8 : List (Nat × Nat) := eight.flatMap fun a => eight.map fun b => (a, b)
theorem mem8 {a : Nat} (h : a < 8) : a ∈ eight := by
  have : a = 0 ∨ a = 1 ∨ a = 2 ∨ a = 3 ∨ a = 4 ∨ a = 5 ∨ a = 6 ∨ a = 7 := by omega
  simpa [eight] using this
theorem memp {a b : Nat} (h : a < 8) (k : b < 8) : (a, b) ∈ pairs8 := by
  simp only [pairs8, List.mem_flatMap, List.mem_map]
  exact ⟨a, mem8 h, b, mem8 k, rfl⟩
end Go.Proofs.Ytdahjdfjpckdcaa
