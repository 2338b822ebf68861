/- Open rows: what is told of pages and feet. Made by gn4.py. -/
import Derived.Test.YtlemialjfnbchaaGreatNgM
import Derived.Test.YtlemialjfnbchaaGreatStU

namespace Go.Proofs.YtlemialjfnbchaaGreat
open Go Go.Vm
set_option maxRecDepth 100000
namespace Be
open Classical in
/-- what is told of one list of arguments -/
noncomputable def conF (A : List AV) (r : AV) (args : List AV) (hp : List Blk) : Option (AV × List Blk) := if args = A ∧ hp = [] then some (r, []) else none
theorem conF_con {P : Program} {f : FuncId} {A : List AV} {r : AV} (h : FnOk P f A [] r []) {args : List AV} {hp hp' : List Blk} {r' : AV} (k : conF A r args hp = some (r', hp')) : FnOk P f args hp r' hp' := by
  unfold conF at k
  split at k
  · rename_i hh
    obtain ⟨rfl, rfl⟩ := hh
    cases k
    exact h
  · cases k
theorem conF_eq {A : List AV} {r : AV} : outF (conF A r A []) = r := by
  unfold conF
  rw [if_pos ⟨rfl, rfl⟩]
  rfl
open Classical in
/-- what a function is told to give, wherever that is so -/
noncomputable def telF (P : Program) (f : FuncId) (W : List AV → AV) (args : List AV) (hp : List Blk) : Option (AV × List Blk) := if hp = [] ∧ FnOk P f args [] (W args) [] then some (W args, []) else none
theorem telF_con {P : Program} {f : FuncId} {W : List AV → AV} {args : List AV} {hp hp' : List Blk} {r : AV} (k : telF P f W args hp = some (r, hp')) : FnOk P f args hp r hp' := by
  unfold telF at k
  split at k
  · rename_i hh
    obtain ⟨rfl, h⟩ := hh
    cases k
    exact h
  · cases k
theorem telF_eq {P : Program} {f : FuncId} {W : List AV → AV} {A : List AV} {r : AV} (h : FnOk P f A [] r []) (e : W A = r) : outF (telF P f W A []) = r := by
  subst e
  unfold telF
  rw [if_pos ⟨rfl, h⟩]
  rfl
/-! ### pages of one block -/
def put4 (c : Nat) : List Nat := [c % 256, c / 256 % 256, c / 65536 % 256, c / 16777216 % 256]
def padL (l : List Nat) : List Nat := (l.length :: l) ++ List.replicate (59 - l.length) 0
def wrapL (l : List Nat) : List Nat := put4 (crc (padL l)) ++ padL l
/-- a block whose bytes stay open -/
def wr (f : Nat → Nat) : List Nat := (List.range 64).map f
theorem wr_get {l : List Nat} (h : l.length = 64) : wr (fun j => l.getD j 0) = l := by
  unfold wr
  refine List.ext_getElem (by simp [h]) (fun j h1 h2 => ?_)
  simp [List.getD_eq_getElem?_getD, List.getElem?_eq_getElem h2]
theorem padL_len {l : List Nat} (h : l.length ≤ 59) : (padL l).length = 60 := by
  unfold padL
  simp
  omega
theorem wrapL_len {l : List Nat} (h : l.length ≤ 59) : (wrapL l).length = 64 := by
  unfold wrapL
  rw [List.length_append, padL_len h]
  rfl
theorem padL_b {l : List Nat} (hl : l.length ≤ 59) (h : ∀ x ∈ l, x < 256) : ∀ x ∈ padL l, x < 256 := by
  unfold padL
  exact b_app (b_cons (by omega) h) (b_zeros _)
theorem put4_b {c : Nat} : ∀ x ∈ put4 c, x < 256 := by
  unfold put4
  exact b_cons (by omega) (b_cons (by omega) (b_cons (by omega) (b_cons (by omega) b_nil)))
theorem wrapL_b {l : List Nat} (hl : l.length ≤ 59) (h : ∀ x ∈ l, x < 256) : ∀ x ∈ wrapL l, x < 256 := b_app put4_b (padL_b hl h)
theorem wr_b {l : List Nat} (hl : l.length ≤ 59) (h : ∀ x ∈ l, x < 256) (j : Nat) : (wrapL l).getD j 0 < 256 := by
  rw [List.getD_eq_getElem?_getD]
  cases hj : (wrapL l)[j]? with
  | none => decide
  | some x => exact wrapL_b hl h x (List.mem_of_getElem? hj)
def wrapV : List AV → AV
  | [.lst _ xs] => (match u8s xs with | some l => .tup [.lst 64 (u8A (wrapL l)), wZ 0] | none => .top)
  | _ => .top
def unwV : List AV → AV
  | [.lst _ xs] => (match u8s xs with | some m => .tup [.lst (m.getD 4 0) (u8A ((m.drop 5).take (m.getD 4 0))), wZ 0] | none => .top)
  | _ => .top
theorem wrapV_eq {n : Nat} {l : List Nat} (h : ∀ x ∈ l, x < 256) : wrapV [.lst n (u8A l)] = .tup [.lst 64 (u8A (wrapL l)), wZ 0] := by
  unfold wrapV
  simp only [u8s_u8 h]
theorem unwV_eq {n : Nat} {l : List Nat} (hl : l.length ≤ 59) (h : ∀ x ∈ l, x < 256) : unwV [.lst n (u8A (wrapL l))] = .tup [.lst l.length (u8A l), wZ 0] := by
  unfold unwV
  simp only [u8s_u8 (wrapL_b hl h)]
  have h4 : (wrapL l).getD 4 0 = l.length := by simp [wrapL, put4, padL]
  have h5 : ((wrapL l).drop 5).take l.length = l := by simp [wrapL, put4, padL]
  rw [h4, h5]
noncomputable def wrF := telF Tryz.prog 121 wrapV
noncomputable def unF := telF Tryz.prog 133 unwV
noncomputable def szF := telF Tryz.prog 88 (fun _ => wZ 1)
noncomputable def mo0 : Vm.Mode := ⟨byMask 57896044618658920464162232821980448298161205217810393175413208097707989663744, fun f => cond (Nat.beq f 186) (some sumV) none⟩
theorem mo0_ok (f : FuncId) (K : List AV → List Blk → Option (AV × List Blk)) (h : mo0.ov f = some K) (args : List AV) (hp : List Blk) (r : AV) (hp' : List Blk) (k : K args hp = some (r, hp')) : FnOk Tryz.prog f args hp r hp' := by
  rcases ov_cond h with ⟨rfl, rfl⟩ | h
  · exact Sm.su_con k
  cases h
def l56 : List Nat := (List.range 56).map fun j => j + 4
theorem sz_all : ∀ k ∈ l56, FnOk Tryz.prog 88 [Vi k] [] (wZ 1) [] := by
  have h : (l56.map fun k => Vm.runC Tryz.prog mo0 1000 88 [Vi k] []) = l56.map fun _ => some (wZ 1, []) := by kernel_rfl
  intro k hk
  exact runC_ok mo0_ok 1000 _ _ _ _ _ (List.map_inj_left.1 h k hk)
theorem sz_eq {k : Nat} (h1 : 4 ≤ k) (h2 : k ≤ 59) : outF (szF [Vi k] []) = wZ 1 := telF_eq (sz_all k (by unfold l56; exact List.mem_map.2 ⟨k - 4, List.mem_range.2 (by omega), by omega⟩)) rfl
theorem yb_pos {i : Nat} (hi : i < 17) (h : i ≠ 8) : 0 < yb i := by
  have : ∀ i, i < 17 → i ≠ 8 → 0 < yb i := by decide
  exact this i hi h
/-! ### floats -/
theorem fe0 : Op.floatEq .f64 (ub 0) (ub 0) = true := by kernel_rfl
theorem fe1 : Op.floatEq .f64 (ub 1) (ub 1) = true := by kernel_rfl
theorem fe2 : Op.floatEq .f64 (ub 2) (ub 2) = true := by kernel_rfl
theorem fe3 : Op.floatEq .f64 (ub 3) (ub 3) = true := by kernel_rfl
theorem fe4 : Op.floatEq .f64 (ub 4) (ub 4) = true := by kernel_rfl
theorem fe5 : Op.floatEq .f64 (ub 5) (ub 5) = true := by kernel_rfl
theorem fe6 : Op.floatEq .f64 (ub 6) (ub 6) = true := by kernel_rfl
theorem fe7 : Op.floatEq .f64 (ub 7) (ub 7) = true := by kernel_rfl
theorem fe8 : Op.floatEq .f64 (ub 8) (ub 8) = true := by kernel_rfl
theorem fe9 : Op.floatEq .f64 (ub 9) (ub 9) = true := by kernel_rfl
theorem fe10 : Op.floatEq .f64 (ub 10) (ub 10) = true := by kernel_rfl
theorem fe11 : Op.floatEq .f64 (ub 11) (ub 11) = true := by kernel_rfl
theorem fe12 : Op.floatEq .f64 (ub 12) (ub 12) = true := by kernel_rfl
theorem fe13 : Op.floatEq .f64 (ub 13) (ub 13) = true := by kernel_rfl
theorem fe14 : Op.floatEq .f64 (ub 14) (ub 14) = true := by kernel_rfl
theorem fe15 : Op.floatEq .f64 (ub 15) (ub 15) = true := by kernel_rfl
theorem fe16 : Op.floatEq .f64 (ub 16) (ub 16) = true := by kernel_rfl
theorem fe_all : ∀ i, i < 17 → Op.floatEq .f64 (ub i) (ub i) = true
  | 0, _ => fe0
  | 1, _ => fe1
  | 2, _ => fe2
  | 3, _ => fe3
  | 4, _ => fe4
  | 5, _ => fe5
  | 6, _ => fe6
  | 7, _ => fe7
  | 8, _ => fe8
  | 9, _ => fe9
  | 10, _ => fe10
  | 11, _ => fe11
  | 12, _ => fe12
  | 13, _ => fe13
  | 14, _ => fe14
  | 15, _ => fe15
  | 16, _ => fe16
  | k + 17, h => absurd h (by omega)
/-! ### the rows -/
abbrev pgE1 (z : Nat) : List Nat := [1, 1, 1, z]
abbrev ftE1 (z y : Nat) : List Nat := [2, 3, 1, 110, 1, 1, 115, 2, 1, 112, 3, 1, 1, 3, 3, 1, 1, 1, 0, z, z, 4, 1, 2, 1, 0, 1, 97, 1, 97, 5, 1, 3, 1, 0, y, 2, y, 2]
abbrev pgE2 (z : Nat) : List Nat := [1, 1, 1, z % 128 + 128, z / 128]
abbrev ftE2 (z y : Nat) : List Nat := [2, 3, 1, 110, 1, 1, 115, 2, 1, 112, 3, 1, 1, 3, 3, 1, 1, 1, 0, z % 128 + 128, z / 128, z % 128 + 128, z / 128, 4, 1, 2, 1, 0, 1, 97, 1, 97, 5, 1, 3, 1, 0, y, 2, y, 2]
abbrev pgE3 (z : Nat) : List Nat := [1, 1, 1, z % 128 + 128, z / 128 % 128 + 128, z / 16384]
abbrev ftE3 (z y : Nat) : List Nat := [2, 3, 1, 110, 1, 1, 115, 2, 1, 112, 3, 1, 1, 3, 3, 1, 1, 1, 0, z % 128 + 128, z / 128 % 128 + 128, z / 16384, z % 128 + 128, z / 128 % 128 + 128, z / 16384, 4, 1, 2, 1, 0, 1, 97, 1, 97, 5, 1, 3, 1, 0, y, 2, y, 2]
abbrev pgE4 (z : Nat) : List Nat := [1, 1, 1, z % 128 + 128, z / 128 % 128 + 128, z / 16384 % 128 + 128, z / 2097152]
abbrev ftE4 (z y : Nat) : List Nat := [2, 3, 1, 110, 1, 1, 115, 2, 1, 112, 3, 1, 1, 3, 3, 1, 1, 1, 0, z % 128 + 128, z / 128 % 128 + 128, z / 16384 % 128 + 128, z / 2097152, z % 128 + 128, z / 128 % 128 + 128, z / 16384 % 128 + 128, z / 2097152, 4, 1, 2, 1, 0, 1, 97, 1, 97, 5, 1, 3, 1, 0, y, 2, y, 2]
abbrev pgE5 (z : Nat) : List Nat := [1, 1, 1, z % 128 + 128, z / 128 % 128 + 128, z / 16384 % 128 + 128, z / 2097152 % 128 + 128, z / 268435456]
abbrev ftE5 (z y : Nat) : List Nat := [2, 3, 1, 110, 1, 1, 115, 2, 1, 112, 3, 1, 1, 3, 3, 1, 1, 1, 0, z % 128 + 128, z / 128 % 128 + 128, z / 16384 % 128 + 128, z / 2097152 % 128 + 128, z / 268435456, z % 128 + 128, z / 128 % 128 + 128, z / 16384 % 128 + 128, z / 2097152 % 128 + 128, z / 268435456, 4, 1, 2, 1, 0, 1, 97, 1, 97, 5, 1, 3, 1, 0, y, 2, y, 2]
abbrev pgE6 (z : Nat) : List Nat := [1, 1, 1, z % 128 + 128, z / 128 % 128 + 128, z / 16384 % 128 + 128, z / 2097152 % 128 + 128, z / 268435456 % 128 + 128, z / 34359738368]
abbrev ftE6 (z y : Nat) : List Nat := [2, 3, 1, 110, 1, 1, 115, 2, 1, 112, 3, 1, 1, 3, 3, 1, 1, 1, 0, z % 128 + 128, z / 128 % 128 + 128, z / 16384 % 128 + 128, z / 2097152 % 128 + 128, z / 268435456 % 128 + 128, z / 34359738368, z % 128 + 128, z / 128 % 128 + 128, z / 16384 % 128 + 128, z / 2097152 % 128 + 128, z / 268435456 % 128 + 128, z / 34359738368, 4, 1, 2, 1, 0, 1, 97, 1, 97, 5, 1, 3, 1, 0, y, 2, y, 2]
abbrev pgE7 (z : Nat) : List Nat := [1, 1, 1, z % 128 + 128, z / 128 % 128 + 128, z / 16384 % 128 + 128, z / 2097152 % 128 + 128, z / 268435456 % 128 + 128, z / 34359738368 % 128 + 128, z / 4398046511104]
abbrev ftE7 (z y : Nat) : List Nat := [2, 3, 1, 110, 1, 1, 115, 2, 1, 112, 3, 1, 1, 3, 3, 1, 1, 1, 0, z % 128 + 128, z / 128 % 128 + 128, z / 16384 % 128 + 128, z / 2097152 % 128 + 128, z / 268435456 % 128 + 128, z / 34359738368 % 128 + 128, z / 4398046511104, z % 128 + 128, z / 128 % 128 + 128, z / 16384 % 128 + 128, z / 2097152 % 128 + 128, z / 268435456 % 128 + 128, z / 34359738368 % 128 + 128, z / 4398046511104, 4, 1, 2, 1, 0, 1, 97, 1, 97, 5, 1, 3, 1, 0, y, 2, y, 2]
abbrev pgE8 (z : Nat) : List Nat := [1, 1, 1, z % 128 + 128, z / 128 % 128 + 128, z / 16384 % 128 + 128, z / 2097152 % 128 + 128, z / 268435456 % 128 + 128, z / 34359738368 % 128 + 128, z / 4398046511104 % 128 + 128, z / 562949953421312]
abbrev ftE8 (z y : Nat) : List Nat := [2, 3, 1, 110, 1, 1, 115, 2, 1, 112, 3, 1, 1, 3, 3, 1, 1, 1, 0, z % 128 + 128, z / 128 % 128 + 128, z / 16384 % 128 + 128, z / 2097152 % 128 + 128, z / 268435456 % 128 + 128, z / 34359738368 % 128 + 128, z / 4398046511104 % 128 + 128, z / 562949953421312, z % 128 + 128, z / 128 % 128 + 128, z / 16384 % 128 + 128, z / 2097152 % 128 + 128, z / 268435456 % 128 + 128, z / 34359738368 % 128 + 128, z / 4398046511104 % 128 + 128, z / 562949953421312, 4, 1, 2, 1, 0, 1, 97, 1, 97, 5, 1, 3, 1, 0, y, 2, y, 2]
abbrev pgE9 (z : Nat) : List Nat := [1, 1, 1, z % 128 + 128, z / 128 % 128 + 128, z / 16384 % 128 + 128, z / 2097152 % 128 + 128, z / 268435456 % 128 + 128, z / 34359738368 % 128 + 128, z / 4398046511104 % 128 + 128, z / 562949953421312 % 128 + 128, z / 72057594037927936]
abbrev ftE9 (z y : Nat) : List Nat := [2, 3, 1, 110, 1, 1, 115, 2, 1, 112, 3, 1, 1, 3, 3, 1, 1, 1, 0, z % 128 + 128, z / 128 % 128 + 128, z / 16384 % 128 + 128, z / 2097152 % 128 + 128, z / 268435456 % 128 + 128, z / 34359738368 % 128 + 128, z / 4398046511104 % 128 + 128, z / 562949953421312 % 128 + 128, z / 72057594037927936, z % 128 + 128, z / 128 % 128 + 128, z / 16384 % 128 + 128, z / 2097152 % 128 + 128, z / 268435456 % 128 + 128, z / 34359738368 % 128 + 128, z / 4398046511104 % 128 + 128, z / 562949953421312 % 128 + 128, z / 72057594037927936, 4, 1, 2, 1, 0, 1, 97, 1, 97, 5, 1, 3, 1, 0, y, 2, y, 2]
abbrev pgE10 (z : Nat) : List Nat := [3, 1, 1, 64, z % 256, z / 256 % 256, z / 65536 % 256, z / 16777216 % 256, z / 4294967296 % 256, z / 1099511627776 % 256, z / 281474976710656 % 256, z / 72057594037927936 % 256]
abbrev ftE10 (z y : Nat) : List Nat := [2, 3, 1, 110, 1, 1, 115, 2, 1, 112, 3, 1, 1, 3, 3, 1, 1, 1, 0, z % 128 + 128, z / 128 % 128 + 128, z / 16384 % 128 + 128, z / 2097152 % 128 + 128, z / 268435456 % 128 + 128, z / 34359738368 % 128 + 128, z / 4398046511104 % 128 + 128, z / 562949953421312 % 128 + 128, z / 72057594037927936 % 128 + 128, z / 9223372036854775808, z % 128 + 128, z / 128 % 128 + 128, z / 16384 % 128 + 128, z / 2097152 % 128 + 128, z / 268435456 % 128 + 128, z / 34359738368 % 128 + 128, z / 4398046511104 % 128 + 128, z / 562949953421312 % 128 + 128, z / 72057594037927936 % 128 + 128, z / 9223372036854775808, 4, 1, 2, 1, 0, 1, 97, 1, 97, 5, 1, 3, 1, 0, y, 2, y, 2]
abbrev ylE (y : Nat) : List Nat := [1, 1, 1, y, 2]
abbrev slE : List Nat := [1, 1, 1, 1, 97]
abbrev ofE : List Nat := [1, 3, 1, 110, 1, 1, 115, 2, 1, 112, 3, 0]
def pgl (z : Nat) : List Nat :=
  if z < 128 then pgE1 z else
  if z < 16384 then pgE2 z else
  if z < 2097152 then pgE3 z else
  if z < 268435456 then pgE4 z else
  if z < 34359738368 then pgE5 z else
  if z < 4398046511104 then pgE6 z else
  if z < 562949953421312 then pgE7 z else
  if z < 72057594037927936 then pgE8 z else
  if z < 9223372036854775808 then pgE9 z else
  pgE10 z
theorem pgl_1 {z : Nat} (h1 : z < 128) : pgl z = pgE1 z := by
  unfold pgl
  rw [if_pos h1]
theorem pgl_2 {z : Nat} (h0 : 128 ≤ z) (h1 : z < 16384) : pgl z = pgE2 z := by
  unfold pgl
  rw [if_neg (show ¬ z < 128 by omega)]
  rw [if_pos h1]
theorem pgl_3 {z : Nat} (h0 : 16384 ≤ z) (h1 : z < 2097152) : pgl z = pgE3 z := by
  unfold pgl
  rw [if_neg (show ¬ z < 128 by omega)]
  rw [if_neg (show ¬ z < 16384 by omega)]
  rw [if_pos h1]
theorem pgl_4 {z : Nat} (h0 : 2097152 ≤ z) (h1 : z < 268435456) : pgl z = pgE4 z := by
  unfold pgl
  rw [if_neg (show ¬ z < 128 by omega)]
  rw [if_neg (show ¬ z < 16384 by omega)]
  rw [if_neg (show ¬ z < 2097152 by omega)]
  rw [if_pos h1]
theorem pgl_5 {z : Nat} (h0 : 268435456 ≤ z) (h1 : z < 34359738368) : pgl z = pgE5 z := by
  unfold pgl
  rw [if_neg (show ¬ z < 128 by omega)]
  rw [if_neg (show ¬ z < 16384 by omega)]
  rw [if_neg (show ¬ z < 2097152 by omega)]
  rw [if_neg (show ¬ z < 268435456 by omega)]
  rw [if_pos h1]
theorem pgl_6 {z : Nat} (h0 : 34359738368 ≤ z) (h1 : z < 4398046511104) : pgl z = pgE6 z := by
  unfold pgl
  rw [if_neg (show ¬ z < 128 by omega)]
  rw [if_neg (show ¬ z < 16384 by omega)]
  rw [if_neg (show ¬ z < 2097152 by omega)]
  rw [if_neg (show ¬ z < 268435456 by omega)]
  rw [if_neg (show ¬ z < 34359738368 by omega)]
  rw [if_pos h1]
theorem pgl_7 {z : Nat} (h0 : 4398046511104 ≤ z) (h1 : z < 562949953421312) : pgl z = pgE7 z := by
  unfold pgl
  rw [if_neg (show ¬ z < 128 by omega)]
  rw [if_neg (show ¬ z < 16384 by omega)]
  rw [if_neg (show ¬ z < 2097152 by omega)]
  rw [if_neg (show ¬ z < 268435456 by omega)]
  rw [if_neg (show ¬ z < 34359738368 by omega)]
  rw [if_neg (show ¬ z < 4398046511104 by omega)]
  rw [if_pos h1]
theorem pgl_8 {z : Nat} (h0 : 562949953421312 ≤ z) (h1 : z < 72057594037927936) : pgl z = pgE8 z := by
  unfold pgl
  rw [if_neg (show ¬ z < 128 by omega)]
  rw [if_neg (show ¬ z < 16384 by omega)]
  rw [if_neg (show ¬ z < 2097152 by omega)]
  rw [if_neg (show ¬ z < 268435456 by omega)]
  rw [if_neg (show ¬ z < 34359738368 by omega)]
  rw [if_neg (show ¬ z < 4398046511104 by omega)]
  rw [if_neg (show ¬ z < 562949953421312 by omega)]
  rw [if_pos h1]
theorem pgl_9 {z : Nat} (h0 : 72057594037927936 ≤ z) (h1 : z < 9223372036854775808) : pgl z = pgE9 z := by
  unfold pgl
  rw [if_neg (show ¬ z < 128 by omega)]
  rw [if_neg (show ¬ z < 16384 by omega)]
  rw [if_neg (show ¬ z < 2097152 by omega)]
  rw [if_neg (show ¬ z < 268435456 by omega)]
  rw [if_neg (show ¬ z < 34359738368 by omega)]
  rw [if_neg (show ¬ z < 4398046511104 by omega)]
  rw [if_neg (show ¬ z < 562949953421312 by omega)]
  rw [if_neg (show ¬ z < 72057594037927936 by omega)]
  rw [if_pos h1]
theorem pgl_10 {z : Nat} (h0 : 9223372036854775808 ≤ z) : pgl z = pgE10 z := by
  unfold pgl
  rw [if_neg (show ¬ z < 128 by omega)]
  rw [if_neg (show ¬ z < 16384 by omega)]
  rw [if_neg (show ¬ z < 2097152 by omega)]
  rw [if_neg (show ¬ z < 268435456 by omega)]
  rw [if_neg (show ¬ z < 34359738368 by omega)]
  rw [if_neg (show ¬ z < 4398046511104 by omega)]
  rw [if_neg (show ¬ z < 562949953421312 by omega)]
  rw [if_neg (show ¬ z < 72057594037927936 by omega)]
  rw [if_neg (show ¬ z < 9223372036854775808 by omega)]
def ftl (z y : Nat) : List Nat :=
  if z < 128 then ftE1 z y else
  if z < 16384 then ftE2 z y else
  if z < 2097152 then ftE3 z y else
  if z < 268435456 then ftE4 z y else
  if z < 34359738368 then ftE5 z y else
  if z < 4398046511104 then ftE6 z y else
  if z < 562949953421312 then ftE7 z y else
  if z < 72057594037927936 then ftE8 z y else
  if z < 9223372036854775808 then ftE9 z y else
  ftE10 z y
theorem ftl_1 {z y : Nat} (h1 : z < 128) : ftl z y = ftE1 z y := by
  unfold ftl
  rw [if_pos h1]
theorem ftl_2 {z y : Nat} (h0 : 128 ≤ z) (h1 : z < 16384) : ftl z y = ftE2 z y := by
  unfold ftl
  rw [if_neg (show ¬ z < 128 by omega)]
  rw [if_pos h1]
theorem ftl_3 {z y : Nat} (h0 : 16384 ≤ z) (h1 : z < 2097152) : ftl z y = ftE3 z y := by
  unfold ftl
  rw [if_neg (show ¬ z < 128 by omega)]
  rw [if_neg (show ¬ z < 16384 by omega)]
  rw [if_pos h1]
theorem ftl_4 {z y : Nat} (h0 : 2097152 ≤ z) (h1 : z < 268435456) : ftl z y = ftE4 z y := by
  unfold ftl
  rw [if_neg (show ¬ z < 128 by omega)]
  rw [if_neg (show ¬ z < 16384 by omega)]
  rw [if_neg (show ¬ z < 2097152 by omega)]
  rw [if_pos h1]
theorem ftl_5 {z y : Nat} (h0 : 268435456 ≤ z) (h1 : z < 34359738368) : ftl z y = ftE5 z y := by
  unfold ftl
  rw [if_neg (show ¬ z < 128 by omega)]
  rw [if_neg (show ¬ z < 16384 by omega)]
  rw [if_neg (show ¬ z < 2097152 by omega)]
  rw [if_neg (show ¬ z < 268435456 by omega)]
  rw [if_pos h1]
theorem ftl_6 {z y : Nat} (h0 : 34359738368 ≤ z) (h1 : z < 4398046511104) : ftl z y = ftE6 z y := by
  unfold ftl
  rw [if_neg (show ¬ z < 128 by omega)]
  rw [if_neg (show ¬ z < 16384 by omega)]
  rw [if_neg (show ¬ z < 2097152 by omega)]
  rw [if_neg (show ¬ z < 268435456 by omega)]
  rw [if_neg (show ¬ z < 34359738368 by omega)]
  rw [if_pos h1]
theorem ftl_7 {z y : Nat} (h0 : 4398046511104 ≤ z) (h1 : z < 562949953421312) : ftl z y = ftE7 z y := by
  unfold ftl
  rw [if_neg (show ¬ z < 128 by omega)]
  rw [if_neg (show ¬ z < 16384 by omega)]
  rw [if_neg (show ¬ z < 2097152 by omega)]
  rw [if_neg (show ¬ z < 268435456 by omega)]
  rw [if_neg (show ¬ z < 34359738368 by omega)]
  rw [if_neg (show ¬ z < 4398046511104 by omega)]
  rw [if_pos h1]
theorem ftl_8 {z y : Nat} (h0 : 562949953421312 ≤ z) (h1 : z < 72057594037927936) : ftl z y = ftE8 z y := by
  unfold ftl
  rw [if_neg (show ¬ z < 128 by omega)]
  rw [if_neg (show ¬ z < 16384 by omega)]
  rw [if_neg (show ¬ z < 2097152 by omega)]
  rw [if_neg (show ¬ z < 268435456 by omega)]
  rw [if_neg (show ¬ z < 34359738368 by omega)]
  rw [if_neg (show ¬ z < 4398046511104 by omega)]
  rw [if_neg (show ¬ z < 562949953421312 by omega)]
  rw [if_pos h1]
theorem ftl_9 {z y : Nat} (h0 : 72057594037927936 ≤ z) (h1 : z < 9223372036854775808) : ftl z y = ftE9 z y := by
  unfold ftl
  rw [if_neg (show ¬ z < 128 by omega)]
  rw [if_neg (show ¬ z < 16384 by omega)]
  rw [if_neg (show ¬ z < 2097152 by omega)]
  rw [if_neg (show ¬ z < 268435456 by omega)]
  rw [if_neg (show ¬ z < 34359738368 by omega)]
  rw [if_neg (show ¬ z < 4398046511104 by omega)]
  rw [if_neg (show ¬ z < 562949953421312 by omega)]
  rw [if_neg (show ¬ z < 72057594037927936 by omega)]
  rw [if_pos h1]
theorem ftl_10 {z y : Nat} (h0 : 9223372036854775808 ≤ z) : ftl z y = ftE10 z y := by
  unfold ftl
  rw [if_neg (show ¬ z < 128 by omega)]
  rw [if_neg (show ¬ z < 16384 by omega)]
  rw [if_neg (show ¬ z < 2097152 by omega)]
  rw [if_neg (show ¬ z < 268435456 by omega)]
  rw [if_neg (show ¬ z < 34359738368 by omega)]
  rw [if_neg (show ¬ z < 4398046511104 by omega)]
  rw [if_neg (show ¬ z < 562949953421312 by omega)]
  rw [if_neg (show ¬ z < 72057594037927936 by omega)]
  rw [if_neg (show ¬ z < 9223372036854775808 by omega)]
theorem pgE1_b {z : Nat} (_h1 : z < 128) : ∀ x ∈ pgE1 z, x < 256 := (b_cons (by decide) (b_cons (by decide) (b_cons (by decide) (b_cons (by omega) b_nil))))
theorem ftE1_b {z y : Nat} (hyl : y < 17) (_h1 : z < 128) : ∀ x ∈ ftE1 z y, x < 256 := (b_cons (by decide) (b_cons (by decide) (b_cons (by decide) (b_cons (by decide) (b_cons (by decide) (b_cons (by decide) (b_cons (by decide) (b_cons (by decide) (b_cons (by decide) (b_cons (by decide) (b_cons (by decide) (b_cons (by decide) (b_cons (by decide) (b_cons (by decide) (b_cons (by decide) (b_cons (by decide) (b_cons (by decide) (b_cons (by decide) (b_cons (by decide) (b_cons (by omega) (b_cons (by omega) (b_cons (by decide) (b_cons (by decide) (b_cons (by decide) (b_cons (by decide) (b_cons (by decide) (b_cons (by decide) (b_cons (by decide) (b_cons (by decide) (b_cons (by decide) (b_cons (by decide) (b_cons (by decide) (b_cons (by decide) (b_cons (by decide) (b_cons (by decide) (b_cons (by omega) (b_cons (by decide) (b_cons (by omega) (b_cons (by decide) b_nil)))))))))))))))))))))))))))))))))))))))
theorem pgE2_b {z : Nat} (_h0 : 128 ≤ z) (_h1 : z < 16384) : ∀ x ∈ pgE2 z, x < 256 := (b_cons (by decide) (b_cons (by decide) (b_cons (by decide) (b_cons (by omega) (b_cons (by omega) b_nil)))))
theorem ftE2_b {z y : Nat} (hyl : y < 17) (_h0 : 128 ≤ z) (_h1 : z < 16384) : ∀ x ∈ ftE2 z y, x < 256 := (b_cons (by decide) (b_cons (by decide) (b_cons (by decide) (b_cons (by decide) (b_cons (by decide) (b_cons (by decide) (b_cons (by decide) (b_cons (by decide) (b_cons (by decide) (b_cons (by decide) (b_cons (by decide) (b_cons (by decide) (b_cons (by decide) (b_cons (by decide) (b_cons (by decide) (b_cons (by decide) (b_cons (by decide) (b_cons (by decide) (b_cons (by decide) (b_cons (by omega) (b_cons (by omega) (b_cons (by omega) (b_cons (by omega) (b_cons (by decide) (b_cons (by decide) (b_cons (by decide) (b_cons (by decide) (b_cons (by decide) (b_cons (by decide) (b_cons (by decide) (b_cons (by decide) (b_cons (by decide) (b_cons (by decide) (b_cons (by decide) (b_cons (by decide) (b_cons (by decide) (b_cons (by decide) (b_cons (by omega) (b_cons (by decide) (b_cons (by omega) (b_cons (by decide) b_nil)))))))))))))))))))))))))))))))))))))))))
theorem pgE3_b {z : Nat} (_h0 : 16384 ≤ z) (_h1 : z < 2097152) : ∀ x ∈ pgE3 z, x < 256 := (b_cons (by decide) (b_cons (by decide) (b_cons (by decide) (b_cons (by omega) (b_cons (by omega) (b_cons (by omega) b_nil))))))
theorem ftE3_b {z y : Nat} (hyl : y < 17) (_h0 : 16384 ≤ z) (_h1 : z < 2097152) : ∀ x ∈ ftE3 z y, x < 256 := (b_cons (by decide) (b_cons (by decide) (b_cons (by decide) (b_cons (by decide) (b_cons (by decide) (b_cons (by decide) (b_cons (by decide) (b_cons (by decide) (b_cons (by decide) (b_cons (by decide) (b_cons (by decide) (b_cons (by decide) (b_cons (by decide) (b_cons (by decide) (b_cons (by decide) (b_cons (by decide) (b_cons (by decide) (b_cons (by decide) (b_cons (by decide) (b_cons (by omega) (b_cons (by omega) (b_cons (by omega) (b_cons (by omega) (b_cons (by omega) (b_cons (by omega) (b_cons (by decide) (b_cons (by decide) (b_cons (by decide) (b_cons (by decide) (b_cons (by decide) (b_cons (by decide) (b_cons (by decide) (b_cons (by decide) (b_cons (by decide) (b_cons (by decide) (b_cons (by decide) (b_cons (by decide) (b_cons (by decide) (b_cons (by decide) (b_cons (by omega) (b_cons (by decide) (b_cons (by omega) (b_cons (by decide) b_nil)))))))))))))))))))))))))))))))))))))))))))
theorem pgE4_b {z : Nat} (_h0 : 2097152 ≤ z) (_h1 : z < 268435456) : ∀ x ∈ pgE4 z, x < 256 := (b_cons (by decide) (b_cons (by decide) (b_cons (by decide) (b_cons (by omega) (b_cons (by omega) (b_cons (by omega) (b_cons (by omega) b_nil)))))))
theorem ftE4_b {z y : Nat} (hyl : y < 17) (_h0 : 2097152 ≤ z) (_h1 : z < 268435456) : ∀ x ∈ ftE4 z y, x < 256 := (b_cons (by decide) (b_cons (by decide) (b_cons (by decide) (b_cons (by decide) (b_cons (by decide) (b_cons (by decide) (b_cons (by decide) (b_cons (by decide) (b_cons (by decide) (b_cons (by decide) (b_cons (by decide) (b_cons (by decide) (b_cons (by decide) (b_cons (by decide) (b_cons (by decide) (b_cons (by decide) (b_cons (by decide) (b_cons (by decide) (b_cons (by decide) (b_cons (by omega) (b_cons (by omega) (b_cons (by omega) (b_cons (by omega) (b_cons (by omega) (b_cons (by omega) (b_cons (by omega) (b_cons (by omega) (b_cons (by decide) (b_cons (by decide) (b_cons (by decide) (b_cons (by decide) (b_cons (by decide) (b_cons (by decide) (b_cons (by decide) (b_cons (by decide) (b_cons (by decide) (b_cons (by decide) (b_cons (by decide) (b_cons (by decide) (b_cons (by decide) (b_cons (by decide) (b_cons (by omega) (b_cons (by decide) (b_cons (by omega) (b_cons (by decide) b_nil)))))))))))))))))))))))))))))))))))))))))))))
theorem pgE5_b {z : Nat} (_h0 : 268435456 ≤ z) (_h1 : z < 34359738368) : ∀ x ∈ pgE5 z, x < 256 := (b_cons (by decide) (b_cons (by decide) (b_cons (by decide) (b_cons (by omega) (b_cons (by omega) (b_cons (by omega) (b_cons (by omega) (b_cons (by omega) b_nil))))))))
theorem ftE5_b {z y : Nat} (hyl : y < 17) (_h0 : 268435456 ≤ z) (_h1 : z < 34359738368) : ∀ x ∈ ftE5 z y, x < 256 := (b_cons (by decide) (b_cons (by decide) (b_cons (by decide) (b_cons (by decide) (b_cons (by decide) (b_cons (by decide) (b_cons (by decide) (b_cons (by decide) (b_cons (by decide) (b_cons (by decide) (b_cons (by decide) (b_cons (by decide) (b_cons (by decide) (b_cons (by decide) (b_cons (by decide) (b_cons (by decide) (b_cons (by decide) (b_cons (by decide) (b_cons (by decide) (b_cons (by omega) (b_cons (by omega) (b_cons (by omega) (b_cons (by omega) (b_cons (by omega) (b_cons (by omega) (b_cons (by omega) (b_cons (by omega) (b_cons (by omega) (b_cons (by omega) (b_cons (by decide) (b_cons (by decide) (b_cons (by decide) (b_cons (by decide) (b_cons (by decide) (b_cons (by decide) (b_cons (by decide) (b_cons (by decide) (b_cons (by decide) (b_cons (by decide) (b_cons (by decide) (b_cons (by decide) (b_cons (by decide) (b_cons (by decide) (b_cons (by omega) (b_cons (by decide) (b_cons (by omega) (b_cons (by decide) b_nil)))))))))))))))))))))))))))))))))))))))))))))))
theorem pgE6_b {z : Nat} (_h0 : 34359738368 ≤ z) (_h1 : z < 4398046511104) : ∀ x ∈ pgE6 z, x < 256 := (b_cons (by decide) (b_cons (by decide) (b_cons (by decide) (b_cons (by omega) (b_cons (by omega) (b_cons (by omega) (b_cons (by omega) (b_cons (by omega) (b_cons (by omega) b_nil)))))))))
theorem ftE6_b {z y : Nat} (hyl : y < 17) (_h0 : 34359738368 ≤ z) (_h1 : z < 4398046511104) : ∀ x ∈ ftE6 z y, x < 256 := (b_cons (by decide) (b_cons (by decide) (b_cons (by decide) (b_cons (by decide) (b_cons (by decide) (b_cons (by decide) (b_cons (by decide) (b_cons (by decide) (b_cons (by decide) (b_cons (by decide) (b_cons (by decide) (b_cons (by decide) (b_cons (by decide) (b_cons (by decide) (b_cons (by decide) (b_cons (by decide) (b_cons (by decide) (b_cons (by decide) (b_cons (by decide) (b_cons (by omega) (b_cons (by omega) (b_cons (by omega) (b_cons (by omega) (b_cons (by omega) (b_cons (by omega) (b_cons (by omega) (b_cons (by omega) (b_cons (by omega) (b_cons (by omega) (b_cons (by omega) (b_cons (by omega) (b_cons (by decide) (b_cons (by decide) (b_cons (by decide) (b_cons (by decide) (b_cons (by decide) (b_cons (by decide) (b_cons (by decide) (b_cons (by decide) (b_cons (by decide) (b_cons (by decide) (b_cons (by decide) (b_cons (by decide) (b_cons (by decide) (b_cons (by decide) (b_cons (by omega) (b_cons (by decide) (b_cons (by omega) (b_cons (by decide) b_nil)))))))))))))))))))))))))))))))))))))))))))))))))
theorem pgE7_b {z : Nat} (_h0 : 4398046511104 ≤ z) (_h1 : z < 562949953421312) : ∀ x ∈ pgE7 z, x < 256 := (b_cons (by decide) (b_cons (by decide) (b_cons (by decide) (b_cons (by omega) (b_cons (by omega) (b_cons (by omega) (b_cons (by omega) (b_cons (by omega) (b_cons (by omega) (b_cons (by omega) b_nil))))))))))
theorem ftE7_b {z y : Nat} (hyl : y < 17) (_h0 : 4398046511104 ≤ z) (_h1 : z < 562949953421312) : ∀ x ∈ ftE7 z y, x < 256 := (b_cons (by decide) (b_cons (by decide) (b_cons (by decide) (b_cons (by decide) (b_cons (by decide) (b_cons (by decide) (b_cons (by decide) (b_cons (by decide) (b_cons (by decide) (b_cons (by decide) (b_cons (by decide) (b_cons (by decide) (b_cons (by decide) (b_cons (by decide) (b_cons (by decide) (b_cons (by decide) (b_cons (by decide) (b_cons (by decide) (b_cons (by decide) (b_cons (by omega) (b_cons (by omega) (b_cons (by omega) (b_cons (by omega) (b_cons (by omega) (b_cons (by omega) (b_cons (by omega) (b_cons (by omega) (b_cons (by omega) (b_cons (by omega) (b_cons (by omega) (b_cons (by omega) (b_cons (by omega) (b_cons (by omega) (b_cons (by decide) (b_cons (by decide) (b_cons (by decide) (b_cons (by decide) (b_cons (by decide) (b_cons (by decide) (b_cons (by decide) (b_cons (by decide) (b_cons (by decide) (b_cons (by decide) (b_cons (by decide) (b_cons (by decide) (b_cons (by decide) (b_cons (by decide) (b_cons (by omega) (b_cons (by decide) (b_cons (by omega) (b_cons (by decide) b_nil)))))))))))))))))))))))))))))))))))))))))))))))))))
theorem pgE8_b {z : Nat} (_h0 : 562949953421312 ≤ z) (_h1 : z < 72057594037927936) : ∀ x ∈ pgE8 z, x < 256 := (b_cons (by decide) (b_cons (by decide) (b_cons (by decide) (b_cons (by omega) (b_cons (by omega) (b_cons (by omega) (b_cons (by omega) (b_cons (by omega) (b_cons (by omega) (b_cons (by omega) (b_cons (by omega) b_nil)))))))))))
theorem ftE8_b {z y : Nat} (hyl : y < 17) (_h0 : 562949953421312 ≤ z) (_h1 : z < 72057594037927936) : ∀ x ∈ ftE8 z y, x < 256 := (b_cons (by decide) (b_cons (by decide) (b_cons (by decide) (b_cons (by decide) (b_cons (by decide) (b_cons (by decide) (b_cons (by decide) (b_cons (by decide) (b_cons (by decide) (b_cons (by decide) (b_cons (by decide) (b_cons (by decide) (b_cons (by decide) (b_cons (by decide) (b_cons (by decide) (b_cons (by decide) (b_cons (by decide) (b_cons (by decide) (b_cons (by decide) (b_cons (by omega) (b_cons (by omega) (b_cons (by omega) (b_cons (by omega) (b_cons (by omega) (b_cons (by omega) (b_cons (by omega) (b_cons (by omega) (b_cons (by omega) (b_cons (by omega) (b_cons (by omega) (b_cons (by omega) (b_cons (by omega) (b_cons (by omega) (b_cons (by omega) (b_cons (by omega) (b_cons (by decide) (b_cons (by decide) (b_cons (by decide) (b_cons (by decide) (b_cons (by decide) (b_cons (by decide) (b_cons (by decide) (b_cons (by decide) (b_cons (by decide) (b_cons (by decide) (b_cons (by decide) (b_cons (by decide) (b_cons (by decide) (b_cons (by decide) (b_cons (by omega) (b_cons (by decide) (b_cons (by omega) (b_cons (by decide) b_nil)))))))))))))))))))))))))))))))))))))))))))))))))))))
theorem pgE9_b {z : Nat} (_h0 : 72057594037927936 ≤ z) (_h1 : z < 9223372036854775808) : ∀ x ∈ pgE9 z, x < 256 := (b_cons (by decide) (b_cons (by decide) (b_cons (by decide) (b_cons (by omega) (b_cons (by omega) (b_cons (by omega) (b_cons (by omega) (b_cons (by omega) (b_cons (by omega) (b_cons (by omega) (b_cons (by omega) (b_cons (by omega) b_nil))))))))))))
theorem ftE9_b {z y : Nat} (hyl : y < 17) (_h0 : 72057594037927936 ≤ z) (_h1 : z < 9223372036854775808) : ∀ x ∈ ftE9 z y, x < 256 := (b_cons (by decide) (b_cons (by decide) (b_cons (by decide) (b_cons (by decide) (b_cons (by decide) (b_cons (by decide) (b_cons (by decide) (b_cons (by decide) (b_cons (by decide) (b_cons (by decide) (b_cons (by decide) (b_cons (by decide) (b_cons (by decide) (b_cons (by decide) (b_cons (by decide) (b_cons (by decide) (b_cons (by decide) (b_cons (by decide) (b_cons (by decide) (b_cons (by omega) (b_cons (by omega) (b_cons (by omega) (b_cons (by omega) (b_cons (by omega) (b_cons (by omega) (b_cons (by omega) (b_cons (by omega) (b_cons (by omega) (b_cons (by omega) (b_cons (by omega) (b_cons (by omega) (b_cons (by omega) (b_cons (by omega) (b_cons (by omega) (b_cons (by omega) (b_cons (by omega) (b_cons (by omega) (b_cons (by decide) (b_cons (by decide) (b_cons (by decide) (b_cons (by decide) (b_cons (by decide) (b_cons (by decide) (b_cons (by decide) (b_cons (by decide) (b_cons (by decide) (b_cons (by decide) (b_cons (by decide) (b_cons (by decide) (b_cons (by decide) (b_cons (by decide) (b_cons (by omega) (b_cons (by decide) (b_cons (by omega) (b_cons (by decide) b_nil)))))))))))))))))))))))))))))))))))))))))))))))))))))))
theorem pgE10_b {z : Nat} (_h0 : 9223372036854775808 ≤ z) (_hzl : z < 18446744073709551616) : ∀ x ∈ pgE10 z, x < 256 := (b_cons (by decide) (b_cons (by decide) (b_cons (by decide) (b_cons (by decide) (b_cons (by omega) (b_cons (by omega) (b_cons (by omega) (b_cons (by omega) (b_cons (by omega) (b_cons (by omega) (b_cons (by omega) (b_cons (by omega) b_nil))))))))))))
theorem ftE10_b {z y : Nat} (hyl : y < 17) (_h0 : 9223372036854775808 ≤ z) (_hzl : z < 18446744073709551616) : ∀ x ∈ ftE10 z y, x < 256 := (b_cons (by decide) (b_cons (by decide) (b_cons (by decide) (b_cons (by decide) (b_cons (by decide) (b_cons (by decide) (b_cons (by decide) (b_cons (by decide) (b_cons (by decide) (b_cons (by decide) (b_cons (by decide) (b_cons (by decide) (b_cons (by decide) (b_cons (by decide) (b_cons (by decide) (b_cons (by decide) (b_cons (by decide) (b_cons (by decide) (b_cons (by decide) (b_cons (by omega) (b_cons (by omega) (b_cons (by omega) (b_cons (by omega) (b_cons (by omega) (b_cons (by omega) (b_cons (by omega) (b_cons (by omega) (b_cons (by omega) (b_cons (by omega) (b_cons (by omega) (b_cons (by omega) (b_cons (by omega) (b_cons (by omega) (b_cons (by omega) (b_cons (by omega) (b_cons (by omega) (b_cons (by omega) (b_cons (by omega) (b_cons (by omega) (b_cons (by decide) (b_cons (by decide) (b_cons (by decide) (b_cons (by decide) (b_cons (by decide) (b_cons (by decide) (b_cons (by decide) (b_cons (by decide) (b_cons (by decide) (b_cons (by decide) (b_cons (by decide) (b_cons (by decide) (b_cons (by decide) (b_cons (by decide) (b_cons (by omega) (b_cons (by decide) (b_cons (by omega) (b_cons (by decide) b_nil)))))))))))))))))))))))))))))))))))))))))))))))))))))))))
theorem pgl_b {z : Nat} (hzl : z < 18446744073709551616) : ∀ x ∈ pgl z, x < 256 := by
  rcases Nat.lt_or_ge z 128 with h | h
  · rw [pgl_1 h]; exact pgE1_b h
  rcases Nat.lt_or_ge z 16384 with h | h
  · rw [pgl_2 (by omega) h]; exact pgE2_b (by omega) h
  rcases Nat.lt_or_ge z 2097152 with h | h
  · rw [pgl_3 (by omega) h]; exact pgE3_b (by omega) h
  rcases Nat.lt_or_ge z 268435456 with h | h
  · rw [pgl_4 (by omega) h]; exact pgE4_b (by omega) h
  rcases Nat.lt_or_ge z 34359738368 with h | h
  · rw [pgl_5 (by omega) h]; exact pgE5_b (by omega) h
  rcases Nat.lt_or_ge z 4398046511104 with h | h
  · rw [pgl_6 (by omega) h]; exact pgE6_b (by omega) h
  rcases Nat.lt_or_ge z 562949953421312 with h | h
  · rw [pgl_7 (by omega) h]; exact pgE7_b (by omega) h
  rcases Nat.lt_or_ge z 72057594037927936 with h | h
  · rw [pgl_8 (by omega) h]; exact pgE8_b (by omega) h
  rcases Nat.lt_or_ge z 9223372036854775808 with h | h
  · rw [pgl_9 (by omega) h]; exact pgE9_b (by omega) h
  rw [pgl_10 h]; exact pgE10_b h hzl
theorem ftl_b {z y : Nat} (hyl : y < 17) (hzl : z < 18446744073709551616) : ∀ x ∈ ftl z y, x < 256 := by
  rcases Nat.lt_or_ge z 128 with h | h
  · rw [ftl_1 h]; exact ftE1_b hyl h
  rcases Nat.lt_or_ge z 16384 with h | h
  · rw [ftl_2 (by omega) h]; exact ftE2_b hyl (by omega) h
  rcases Nat.lt_or_ge z 2097152 with h | h
  · rw [ftl_3 (by omega) h]; exact ftE3_b hyl (by omega) h
  rcases Nat.lt_or_ge z 268435456 with h | h
  · rw [ftl_4 (by omega) h]; exact ftE4_b hyl (by omega) h
  rcases Nat.lt_or_ge z 34359738368 with h | h
  · rw [ftl_5 (by omega) h]; exact ftE5_b hyl (by omega) h
  rcases Nat.lt_or_ge z 4398046511104 with h | h
  · rw [ftl_6 (by omega) h]; exact ftE6_b hyl (by omega) h
  rcases Nat.lt_or_ge z 562949953421312 with h | h
  · rw [ftl_7 (by omega) h]; exact ftE7_b hyl (by omega) h
  rcases Nat.lt_or_ge z 72057594037927936 with h | h
  · rw [ftl_8 (by omega) h]; exact ftE8_b hyl (by omega) h
  rcases Nat.lt_or_ge z 9223372036854775808 with h | h
  · rw [ftl_9 (by omega) h]; exact ftE9_b hyl (by omega) h
  rw [ftl_10 h]; exact ftE10_b hyl h hzl
theorem pgl_len {z : Nat} : 4 ≤ (pgl z).length ∧ (pgl z).length ≤ 12 := by
  rcases Nat.lt_or_ge z 128 with h | h
  · rw [pgl_1 h]; exact ⟨Nat.le_of_ble_eq_true rfl, Nat.le_of_ble_eq_true rfl⟩
  rcases Nat.lt_or_ge z 16384 with h | h
  · rw [pgl_2 (by omega) h]; exact ⟨Nat.le_of_ble_eq_true rfl, Nat.le_of_ble_eq_true rfl⟩
  rcases Nat.lt_or_ge z 2097152 with h | h
  · rw [pgl_3 (by omega) h]; exact ⟨Nat.le_of_ble_eq_true rfl, Nat.le_of_ble_eq_true rfl⟩
  rcases Nat.lt_or_ge z 268435456 with h | h
  · rw [pgl_4 (by omega) h]; exact ⟨Nat.le_of_ble_eq_true rfl, Nat.le_of_ble_eq_true rfl⟩
  rcases Nat.lt_or_ge z 34359738368 with h | h
  · rw [pgl_5 (by omega) h]; exact ⟨Nat.le_of_ble_eq_true rfl, Nat.le_of_ble_eq_true rfl⟩
  rcases Nat.lt_or_ge z 4398046511104 with h | h
  · rw [pgl_6 (by omega) h]; exact ⟨Nat.le_of_ble_eq_true rfl, Nat.le_of_ble_eq_true rfl⟩
  rcases Nat.lt_or_ge z 562949953421312 with h | h
  · rw [pgl_7 (by omega) h]; exact ⟨Nat.le_of_ble_eq_true rfl, Nat.le_of_ble_eq_true rfl⟩
  rcases Nat.lt_or_ge z 72057594037927936 with h | h
  · rw [pgl_8 (by omega) h]; exact ⟨Nat.le_of_ble_eq_true rfl, Nat.le_of_ble_eq_true rfl⟩
  rcases Nat.lt_or_ge z 9223372036854775808 with h | h
  · rw [pgl_9 (by omega) h]; exact ⟨Nat.le_of_ble_eq_true rfl, Nat.le_of_ble_eq_true rfl⟩
  rw [pgl_10 h]; exact ⟨Nat.le_of_ble_eq_true rfl, Nat.le_of_ble_eq_true rfl⟩
theorem ftl_len {z y : Nat} : 39 ≤ (ftl z y).length ∧ (ftl z y).length ≤ 59 := by
  rcases Nat.lt_or_ge z 128 with h | h
  · rw [ftl_1 h]; exact ⟨Nat.le_of_ble_eq_true rfl, Nat.le_of_ble_eq_true rfl⟩
  rcases Nat.lt_or_ge z 16384 with h | h
  · rw [ftl_2 (by omega) h]; exact ⟨Nat.le_of_ble_eq_true rfl, Nat.le_of_ble_eq_true rfl⟩
  rcases Nat.lt_or_ge z 2097152 with h | h
  · rw [ftl_3 (by omega) h]; exact ⟨Nat.le_of_ble_eq_true rfl, Nat.le_of_ble_eq_true rfl⟩
  rcases Nat.lt_or_ge z 268435456 with h | h
  · rw [ftl_4 (by omega) h]; exact ⟨Nat.le_of_ble_eq_true rfl, Nat.le_of_ble_eq_true rfl⟩
  rcases Nat.lt_or_ge z 34359738368 with h | h
  · rw [ftl_5 (by omega) h]; exact ⟨Nat.le_of_ble_eq_true rfl, Nat.le_of_ble_eq_true rfl⟩
  rcases Nat.lt_or_ge z 4398046511104 with h | h
  · rw [ftl_6 (by omega) h]; exact ⟨Nat.le_of_ble_eq_true rfl, Nat.le_of_ble_eq_true rfl⟩
  rcases Nat.lt_or_ge z 562949953421312 with h | h
  · rw [ftl_7 (by omega) h]; exact ⟨Nat.le_of_ble_eq_true rfl, Nat.le_of_ble_eq_true rfl⟩
  rcases Nat.lt_or_ge z 72057594037927936 with h | h
  · rw [ftl_8 (by omega) h]; exact ⟨Nat.le_of_ble_eq_true rfl, Nat.le_of_ble_eq_true rfl⟩
  rcases Nat.lt_or_ge z 9223372036854775808 with h | h
  · rw [ftl_9 (by omega) h]; exact ⟨Nat.le_of_ble_eq_true rfl, Nat.le_of_ble_eq_true rfl⟩
  rw [ftl_10 h]; exact ⟨Nat.le_of_ble_eq_true rfl, Nat.le_of_ble_eq_true rfl⟩
/-- the first byte of a row -/
def kB : List AV → Nat
  | (.lst _ (.p (.int _ k) :: _)) :: _ => k.toNat
  | _ => 0
theorem ftl_kB (z y : Nat) : kB [.lst (ftl z y).length (u8A (ftl z y))] = 2 := by
  rcases Nat.lt_or_ge z 128 with h | h
  · rw [ftl_1 h]; rfl
  rcases Nat.lt_or_ge z 16384 with h | h
  · rw [ftl_2 (by omega) h]; rfl
  rcases Nat.lt_or_ge z 2097152 with h | h
  · rw [ftl_3 (by omega) h]; rfl
  rcases Nat.lt_or_ge z 268435456 with h | h
  · rw [ftl_4 (by omega) h]; rfl
  rcases Nat.lt_or_ge z 34359738368 with h | h
  · rw [ftl_5 (by omega) h]; rfl
  rcases Nat.lt_or_ge z 4398046511104 with h | h
  · rw [ftl_6 (by omega) h]; rfl
  rcases Nat.lt_or_ge z 562949953421312 with h | h
  · rw [ftl_7 (by omega) h]; rfl
  rcases Nat.lt_or_ge z 72057594037927936 with h | h
  · rw [ftl_8 (by omega) h]; rfl
  rcases Nat.lt_or_ge z 9223372036854775808 with h | h
  · rw [ftl_9 (by omega) h]; rfl
  rw [ftl_10 h]; rfl
def pgw (z : Nat) : Int := if z < 9223372036854775808 then 1 else 3
theorem best_o {z : Nat} : bestR z = .tup [.lst (pgl z).length (u8A (pgl z)), wZ (pgw z), wZ 0] := by
  rcases Nat.lt_or_ge z 128 with h | h
  · rw [bestR_1 h, pgl_1 h]; unfold pgw; rw [if_pos (show z < 9223372036854775808 by omega)]; rfl
  rcases Nat.lt_or_ge z 16384 with h | h
  · rw [bestR_2 (by omega) h, pgl_2 (by omega) h]; unfold pgw; rw [if_pos (show z < 9223372036854775808 by omega)]; rfl
  rcases Nat.lt_or_ge z 2097152 with h | h
  · rw [bestR_3 (by omega) h, pgl_3 (by omega) h]; unfold pgw; rw [if_pos (show z < 9223372036854775808 by omega)]; rfl
  rcases Nat.lt_or_ge z 268435456 with h | h
  · rw [bestR_4 (by omega) h, pgl_4 (by omega) h]; unfold pgw; rw [if_pos (show z < 9223372036854775808 by omega)]; rfl
  rcases Nat.lt_or_ge z 34359738368 with h | h
  · rw [bestR_5 (by omega) h, pgl_5 (by omega) h]; unfold pgw; rw [if_pos (show z < 9223372036854775808 by omega)]; rfl
  rcases Nat.lt_or_ge z 4398046511104 with h | h
  · rw [bestR_6 (by omega) h, pgl_6 (by omega) h]; unfold pgw; rw [if_pos (show z < 9223372036854775808 by omega)]; rfl
  rcases Nat.lt_or_ge z 562949953421312 with h | h
  · rw [bestR_7 (by omega) h, pgl_7 (by omega) h]; unfold pgw; rw [if_pos (show z < 9223372036854775808 by omega)]; rfl
  rcases Nat.lt_or_ge z 72057594037927936 with h | h
  · rw [bestR_8 (by omega) h, pgl_8 (by omega) h]; unfold pgw; rw [if_pos (show z < 9223372036854775808 by omega)]; rfl
  rcases Nat.lt_or_ge z 9223372036854775808 with h | h
  · rw [bestR_9 (by omega) h, pgl_9 (by omega) h]; unfold pgw; rw [if_pos (show z < 9223372036854775808 by omega)]; rfl
  rw [bestR_10 h, pgl_10 h]; unfold pgw; rw [if_neg (show ¬ z < 9223372036854775808 by omega)]; rfl
end Be
end Go.Proofs.YtlemialjfnbchaaGreat
