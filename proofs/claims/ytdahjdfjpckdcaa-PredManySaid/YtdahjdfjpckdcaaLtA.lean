/- Rows of numbers and Nulls, open: their cells, what is loaded, what is put behind. -/
import Derived.Test.YtdahjdfjpckdcaaKtE
namespace Go.Vm
open Go
theorem ldN_all (xs : List AV) {n : Nat} (h : xs.length = n) : ldN xs 0 n = some xs := by
  unfold ldN
  have e : (xs.drop 0).take n = xs := by rw [List.drop_zero, ← h, List.take_length]
  simp only [e]
  rw [h]
  have : Nat.beq n n = true := Nat.beq_refl n
  rw [this]; rfl
theorem getB_at {hp : List Blk} {i g : Nat} {b : Blk} (hb : hp[i]? = some b) (hg : b.gen = g) : getB hp i g = some b := by
  unfold getB
  simp only [hb, hg]
  have : Nat.beq g g = true := Nat.beq_refl g
  rw [this]; rfl
theorem ble_of {a b : Nat} (h : a ≤ b) : Nat.ble a b = true := Nat.ble_eq_true_of_le h
theorem append_ref {P : Program} {hp : List Blk} {st xt e : TypeId} {sz by_ i g n m : Nat} {z : Value} {b : Blk} {x : AV} {new : List AV} (he : elemT P st = some e) (h1 : szT P e = some sz) (h2 : bytesT P e = some by_) (h3 : zeroT P e = some z) (hx : elemsOf hp x = some (m, new))
    (hsrc : (srcT P xt sz x && Nat.ble 1 sz && Nat.ble 1 by_ && Nat.beq (cellsA (abs1 z)).length sz && Nat.beq new.length (m * sz) && new.all imm0 && new.all one) = true) (hb : hp[i]? = some b) (hg : b.gen = g) (hrow : b.row = true) (hro : b.ro = false) (hesz : b.esz = sz) (hle : (n + m) * by_ ≤ 70368744177664)
    (hlen : b.cells.length = n * sz) : appendV P hp st xt (.ref i g 0 n) x = some (.val (.ref i (g + 1) 0 (n + m)) (hp.set i { b with cells := b.cells ++ new, gen := g + 1 })) := by
  unfold appendV
  simp only [he, h1, h2, h3, hx, hsrc, cond_true, getB_at hb hg, hrow, hro, hesz, ble_of hle, ldN_all b.cells hlen, Bool.not_false, Bool.and_true, Nat.beq_refl]
theorem frz_ref {hp : List Blk} {i g n : Nat} {b : Blk} (hb : hp[i]? = some b) (hg : b.gen = g) (hrow : b.row = true) (hlen : b.cells.length = n * b.esz) : frz hp (.ref i g 0 n) = some (.lst n b.cells, hp.set i { b with ro := true }) := by
  unfold frz
  simp only [getB_at hb hg, hrow, cond_true, ldN_all b.cells hlen]
end Go.Vm
namespace Go.Proofs.Ytdahjdfjpckdcaa
open Go Go.Vm
set_option maxRecDepth 100000
abbrev elC : Option Int → List AV
  | some n => valC n
  | none => nulC
def cellsO (os : List (Option Int)) : List AV := os.flatMap elC
theorem elC_len (o : Option Int) : (elC o).length = 4 := by cases o <;> rfl
theorem cellsO_len : ∀ os : List (Option Int), (cellsO os).length = os.length * 4
  | [] => rfl
  | o :: os => by
    have := cellsO_len os
    unfold cellsO at this ⊢
    rw [List.flatMap_cons, List.length_append, elC_len, this, List.length_cons]; omega
theorem cellsO_app (os : List (Option Int)) (o : Option Int) : cellsO (os ++ [o]) = cellsO os ++ elC o := by simp [cellsO]
theorem cellsO_at : ∀ (os : List (Option Int)) (i : Nat) (h : i < os.length), ldN (cellsO os) (i * 4) 4 = some (elC os[i])
  | o :: os, 0, _ => by
    unfold cellsO ldN
    rw [List.flatMap_cons]
    have e : ((elC o ++ os.flatMap elC).drop (0 * 4)).take 4 = elC o := by
      rw [Nat.zero_mul, List.drop_zero, List.take_append_of_le_length (by rw [elC_len]; omega), List.take_of_length_le (by rw [elC_len]; omega)]
    simp only [e, elC_len]
    rfl
  | o :: os, i + 1, h => by
    have ih := cellsO_at os i (by simpa using h)
    unfold cellsO ldN at ih ⊢
    rw [List.flatMap_cons]
    have e : (elC o ++ os.flatMap elC).drop ((i + 1) * 4) = (os.flatMap elC).drop (i * 4) := by
      have : (i + 1) * 4 = (elC o).length + i * 4 := by rw [elC_len]; omega
      rw [this, List.drop_append, List.drop_eq_nil_of_le (by omega), Nat.add_sub_cancel_left, List.nil_append]
    simp only [e, List.getElem_cons_succ]
    exact ih
theorem agg34 : isAggT Try.prog 34 = some true := by kernel_rfl
theorem sz34 : szT Try.prog 34 = some 4 := by kernel_rfl
theorem ldO_at {os : List (Option Int)} {i : Nat} (h : i < os.length) (hp : List Blk) : ldO Try.prog 34 (cellsO os) (i * 4) hp = .agg (elC os[i]) := by
  unfold ldO ld
  simp only [agg34, sz34, cellsO_at os i h]
  rfl
theorem bytes34 : bytesT Try.prog 34 = some 48 := by kernel_rfl
theorem zero34 : zeroT Try.prog 34 = some (.agg #[.int .i64 0, .int .i64 0, .string { data := { toList := [] } }, .complex .f64 0 0]) := by kernel_rfl
theorem elem36 : elemT Try.prog 36 = some 34 := by kernel_rfl
theorem src36 (o : Option Int) : (srcT Try.prog 36 4 (.lit 1 (elC o)) && Nat.ble 1 4 && Nat.ble 1 48 && Nat.beq (cellsA (abs1 (Value.agg #[.int .i64 0, .int .i64 0, .string { data := { toList := [] } }, .complex .f64 0 0]))).length 4 && Nat.beq (elC o).length (1 * 4) && (elC o).all imm0 && (elC o).all one) = true := by
  cases o with
  | none => kernel_rfl
  | some n => exact (by kernel_rfl : (srcT Try.prog 36 4 (.lit 1 (valC n)) && Nat.ble 1 4 && Nat.ble 1 48 && Nat.beq (cellsA (abs1 (Value.agg #[.int .i64 0, .int .i64 0, .string { data := { toList := [] } }, .complex .f64 0 0]))).length 4 && Nat.beq (valC n).length (1 * 4) && (valC n).all imm0 && (valC n).all one) = true)
/-- a row of so many values, in a block of its own -/
abbrev rowB (os : List (Option Int)) (g : Nat) (ro : Bool) : Blk := { cells := cellsO os, esz := 4, gen := g, row := true, ro := ro }
theorem app36 {hp : List Blk} {i g n : Nat} {os : List (Option Int)} (o : Option Int) (hb : hp[i]? = some (rowB os g false)) (hn : os.length = n) (hlt : n < 1000) :
    appendV Try.prog hp 36 36 (.ref i g 0 n) (.lit 1 (elC o)) = some (.val (.ref i (g + 1) 0 (n + 1)) (hp.set i (rowB (os ++ [o]) (g + 1) false))) := by
  have := append_ref (P := Try.prog) (hp := hp) (st := 36) (xt := 36) (i := i) (g := g) (n := n) (m := 1) (x := .lit 1 (elC o)) (new := elC o) elem36 sz34 bytes34 zero34 rfl (src36 o) hb rfl rfl rfl rfl (by omega) (by rw [cellsO_len, hn])
  rw [this]
  simp only [rowB, cellsO_app]
end Go.Proofs.Ytdahjdfjpckdcaa
