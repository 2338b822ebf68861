/- col.Best as a contract at a row of one number or of one point of seventeen; the checks of such points. Made by gbc.py. -/
import Derived.Test.YtlemialjfnbchaaGreatBeB0
import Derived.Test.YtlemialjfnbchaaGreatBeB1
import Derived.Test.YtlemialjfnbchaaGreatBeB2
import Derived.Test.YtlemialjfnbchaaGreatBeB3
import Derived.Test.YtlemialjfnbchaaGreatBeB4
import Derived.Test.YtlemialjfnbchaaGreatVmRl

namespace Go.Proofs.YtlemialjfnbchaaGreat
open Go Go.Vm
set_option maxRecDepth 100000
namespace Be
abbrev br1 (z : Nat) : AV := .tup [.lst 4 (u8A [1, 1, 1, z]), .p (.int .i64 1), .p (.int .i64 0)]
abbrev br2 (z : Nat) : AV := .tup [.lst 5 (u8A [1, 1, 1, z % 128 + 128, z / 128]), .p (.int .i64 1), .p (.int .i64 0)]
abbrev br3 (z : Nat) : AV := .tup [.lst 6 (u8A [1, 1, 1, z % 128 + 128, z / 128 % 128 + 128, z / 16384]), .p (.int .i64 1), .p (.int .i64 0)]
abbrev br4 (z : Nat) : AV := .tup [.lst 7 (u8A [1, 1, 1, z % 128 + 128, z / 128 % 128 + 128, z / 16384 % 128 + 128, z / 2097152]), .p (.int .i64 1), .p (.int .i64 0)]
abbrev br5 (z : Nat) : AV := .tup [.lst 8 (u8A [1, 1, 1, z % 128 + 128, z / 128 % 128 + 128, z / 16384 % 128 + 128, z / 2097152 % 128 + 128, z / 268435456]), .p (.int .i64 1), .p (.int .i64 0)]
abbrev br6 (z : Nat) : AV := .tup [.lst 9 (u8A [1, 1, 1, z % 128 + 128, z / 128 % 128 + 128, z / 16384 % 128 + 128, z / 2097152 % 128 + 128, z / 268435456 % 128 + 128, z / 34359738368]), .p (.int .i64 1), .p (.int .i64 0)]
abbrev br7 (z : Nat) : AV := .tup [.lst 10 (u8A [1, 1, 1, z % 128 + 128, z / 128 % 128 + 128, z / 16384 % 128 + 128, z / 2097152 % 128 + 128, z / 268435456 % 128 + 128, z / 34359738368 % 128 + 128, z / 4398046511104]), .p (.int .i64 1), .p (.int .i64 0)]
abbrev br8 (z : Nat) : AV := .tup [.lst 11 (u8A [1, 1, 1, z % 128 + 128, z / 128 % 128 + 128, z / 16384 % 128 + 128, z / 2097152 % 128 + 128, z / 268435456 % 128 + 128, z / 34359738368 % 128 + 128, z / 4398046511104 % 128 + 128, z / 562949953421312]), .p (.int .i64 1), .p (.int .i64 0)]
abbrev br9 (z : Nat) : AV := .tup [.lst 12 (u8A [1, 1, 1, z % 128 + 128, z / 128 % 128 + 128, z / 16384 % 128 + 128, z / 2097152 % 128 + 128, z / 268435456 % 128 + 128, z / 34359738368 % 128 + 128, z / 4398046511104 % 128 + 128, z / 562949953421312 % 128 + 128, z / 72057594037927936]), .p (.int .i64 1), .p (.int .i64 0)]
abbrev br10 (z : Nat) : AV := .tup [.lst 12 (u8A [3, 1, 1, 64, z % 256, z / 256 % 256, z / 65536 % 256, z / 16777216 % 256, z / 4294967296 % 256, z / 1099511627776 % 256, z / 281474976710656 % 256, z / 72057594037927936 % 256]), .p (.int .i64 3), .p (.int .i64 0)]
/-- what col.Best answers at a row of one number -/
def bestR (z : Nat) : AV :=
  if z < 128 then br1 z else
  if z < 16384 then br2 z else
  if z < 2097152 then br3 z else
  if z < 268435456 then br4 z else
  if z < 34359738368 then br5 z else
  if z < 4398046511104 then br6 z else
  if z < 562949953421312 then br7 z else
  if z < 72057594037927936 then br8 z else
  if z < 9223372036854775808 then br9 z else
  br10 z
theorem bestR_1 {z : Nat} (h1 : z < 128) : bestR z = br1 z := by
  unfold bestR
  rw [if_pos h1]
theorem bestR_2 {z : Nat} (h0 : 128 ≤ z) (h1 : z < 16384) : bestR z = br2 z := by
  unfold bestR
  rw [if_neg (show ¬ z < 128 by omega)]
  rw [if_pos h1]
theorem bestR_3 {z : Nat} (h0 : 16384 ≤ z) (h1 : z < 2097152) : bestR z = br3 z := by
  unfold bestR
  rw [if_neg (show ¬ z < 128 by omega)]
  rw [if_neg (show ¬ z < 16384 by omega)]
  rw [if_pos h1]
theorem bestR_4 {z : Nat} (h0 : 2097152 ≤ z) (h1 : z < 268435456) : bestR z = br4 z := by
  unfold bestR
  rw [if_neg (show ¬ z < 128 by omega)]
  rw [if_neg (show ¬ z < 16384 by omega)]
  rw [if_neg (show ¬ z < 2097152 by omega)]
  rw [if_pos h1]
theorem bestR_5 {z : Nat} (h0 : 268435456 ≤ z) (h1 : z < 34359738368) : bestR z = br5 z := by
  unfold bestR
  rw [if_neg (show ¬ z < 128 by omega)]
  rw [if_neg (show ¬ z < 16384 by omega)]
  rw [if_neg (show ¬ z < 2097152 by omega)]
  rw [if_neg (show ¬ z < 268435456 by omega)]
  rw [if_pos h1]
theorem bestR_6 {z : Nat} (h0 : 34359738368 ≤ z) (h1 : z < 4398046511104) : bestR z = br6 z := by
  unfold bestR
  rw [if_neg (show ¬ z < 128 by omega)]
  rw [if_neg (show ¬ z < 16384 by omega)]
  rw [if_neg (show ¬ z < 2097152 by omega)]
  rw [if_neg (show ¬ z < 268435456 by omega)]
  rw [if_neg (show ¬ z < 34359738368 by omega)]
  rw [if_pos h1]
theorem bestR_7 {z : Nat} (h0 : 4398046511104 ≤ z) (h1 : z < 562949953421312) : bestR z = br7 z := by
  unfold bestR
  rw [if_neg (show ¬ z < 128 by omega)]
  rw [if_neg (show ¬ z < 16384 by omega)]
  rw [if_neg (show ¬ z < 2097152 by omega)]
  rw [if_neg (show ¬ z < 268435456 by omega)]
  rw [if_neg (show ¬ z < 34359738368 by omega)]
  rw [if_neg (show ¬ z < 4398046511104 by omega)]
  rw [if_pos h1]
theorem bestR_8 {z : Nat} (h0 : 562949953421312 ≤ z) (h1 : z < 72057594037927936) : bestR z = br8 z := by
  unfold bestR
  rw [if_neg (show ¬ z < 128 by omega)]
  rw [if_neg (show ¬ z < 16384 by omega)]
  rw [if_neg (show ¬ z < 2097152 by omega)]
  rw [if_neg (show ¬ z < 268435456 by omega)]
  rw [if_neg (show ¬ z < 34359738368 by omega)]
  rw [if_neg (show ¬ z < 4398046511104 by omega)]
  rw [if_neg (show ¬ z < 562949953421312 by omega)]
  rw [if_pos h1]
theorem bestR_9 {z : Nat} (h0 : 72057594037927936 ≤ z) (h1 : z < 9223372036854775808) : bestR z = br9 z := by
  unfold bestR
  rw [if_neg (show ¬ z < 128 by omega)]
  rw [if_neg (show ¬ z < 16384 by omega)]
  rw [if_neg (show ¬ z < 2097152 by omega)]
  rw [if_neg (show ¬ z < 268435456 by omega)]
  rw [if_neg (show ¬ z < 34359738368 by omega)]
  rw [if_neg (show ¬ z < 4398046511104 by omega)]
  rw [if_neg (show ¬ z < 562949953421312 by omega)]
  rw [if_neg (show ¬ z < 72057594037927936 by omega)]
  rw [if_pos h1]
theorem bestR_10 {z : Nat} (h0 : 9223372036854775808 ≤ z) : bestR z = br10 z := by
  unfold bestR
  rw [if_neg (show ¬ z < 128 by omega)]
  rw [if_neg (show ¬ z < 16384 by omega)]
  rw [if_neg (show ¬ z < 2097152 by omega)]
  rw [if_neg (show ¬ z < 268435456 by omega)]
  rw [if_neg (show ¬ z < 34359738368 by omega)]
  rw [if_neg (show ¬ z < 4398046511104 by omega)]
  rw [if_neg (show ¬ z < 562949953421312 by omega)]
  rw [if_neg (show ¬ z < 72057594037927936 by omega)]
  rw [if_neg (show ¬ z < 9223372036854775808 by omega)]
theorem bw0 {n : Int} (hn : in64 n) (hw : bl (zigN n) = 0) : FnOk Tryz.prog 205 (arg n) [] (bestR (zigN n)) [] := by
  have h1 := bl_up hw
  simp only [Nat.reducePow] at h1
  rw [bestR_1 (by omega)]
  exact be0_ok hn rfl hw
theorem bw1 {n : Int} (hn : in64 n) (hw : bl (zigN n) = 1) : FnOk Tryz.prog 205 (arg n) [] (bestR (zigN n)) [] := by
  have h1 := bl_up hw
  simp only [Nat.reducePow] at h1
  rw [bestR_1 (by omega)]
  exact be1_ok hn rfl hw
theorem bw2 {n : Int} (hn : in64 n) (hw : bl (zigN n) = 2) : FnOk Tryz.prog 205 (arg n) [] (bestR (zigN n)) [] := by
  have h1 := bl_up hw
  simp only [Nat.reducePow] at h1
  rw [bestR_1 (by omega)]
  exact be2_ok hn rfl hw
theorem bw3 {n : Int} (hn : in64 n) (hw : bl (zigN n) = 3) : FnOk Tryz.prog 205 (arg n) [] (bestR (zigN n)) [] := by
  have h1 := bl_up hw
  simp only [Nat.reducePow] at h1
  rw [bestR_1 (by omega)]
  exact be3_ok hn rfl hw
theorem bw4 {n : Int} (hn : in64 n) (hw : bl (zigN n) = 4) : FnOk Tryz.prog 205 (arg n) [] (bestR (zigN n)) [] := by
  have h1 := bl_up hw
  simp only [Nat.reducePow] at h1
  rw [bestR_1 (by omega)]
  exact be4_ok hn rfl hw
theorem bw5 {n : Int} (hn : in64 n) (hw : bl (zigN n) = 5) : FnOk Tryz.prog 205 (arg n) [] (bestR (zigN n)) [] := by
  have h1 := bl_up hw
  simp only [Nat.reducePow] at h1
  rw [bestR_1 (by omega)]
  exact be5_ok hn rfl hw
theorem bw6 {n : Int} (hn : in64 n) (hw : bl (zigN n) = 6) : FnOk Tryz.prog 205 (arg n) [] (bestR (zigN n)) [] := by
  have h1 := bl_up hw
  simp only [Nat.reducePow] at h1
  rw [bestR_1 (by omega)]
  exact be6_ok hn rfl hw
theorem bw7 {n : Int} (hn : in64 n) (hw : bl (zigN n) = 7) : FnOk Tryz.prog 205 (arg n) [] (bestR (zigN n)) [] := by
  have h1 := bl_up hw
  simp only [Nat.reducePow] at h1
  rw [bestR_1 (by omega)]
  exact be7_ok hn rfl hw
theorem bw8 {n : Int} (hn : in64 n) (hw : bl (zigN n) = 8) : FnOk Tryz.prog 205 (arg n) [] (bestR (zigN n)) [] := by
  have h1 := bl_up hw
  have h0 := bl_ge hw
  simp only [Nat.reducePow] at h1
  simp only [Nat.reducePow] at h0
  rw [bestR_2 (by omega) (by omega)]
  exact be8_ok hn rfl hw
theorem bw9 {n : Int} (hn : in64 n) (hw : bl (zigN n) = 9) : FnOk Tryz.prog 205 (arg n) [] (bestR (zigN n)) [] := by
  have h1 := bl_up hw
  have h0 := bl_ge hw
  simp only [Nat.reducePow] at h1
  simp only [Nat.reducePow] at h0
  rw [bestR_2 (by omega) (by omega)]
  exact be9_ok hn rfl hw
theorem bw10 {n : Int} (hn : in64 n) (hw : bl (zigN n) = 10) : FnOk Tryz.prog 205 (arg n) [] (bestR (zigN n)) [] := by
  have h1 := bl_up hw
  have h0 := bl_ge hw
  simp only [Nat.reducePow] at h1
  simp only [Nat.reducePow] at h0
  rw [bestR_2 (by omega) (by omega)]
  exact be10_ok hn rfl hw
theorem bw11 {n : Int} (hn : in64 n) (hw : bl (zigN n) = 11) : FnOk Tryz.prog 205 (arg n) [] (bestR (zigN n)) [] := by
  have h1 := bl_up hw
  have h0 := bl_ge hw
  simp only [Nat.reducePow] at h1
  simp only [Nat.reducePow] at h0
  rw [bestR_2 (by omega) (by omega)]
  exact be11_ok hn rfl hw
theorem bw12 {n : Int} (hn : in64 n) (hw : bl (zigN n) = 12) : FnOk Tryz.prog 205 (arg n) [] (bestR (zigN n)) [] := by
  have h1 := bl_up hw
  have h0 := bl_ge hw
  simp only [Nat.reducePow] at h1
  simp only [Nat.reducePow] at h0
  rw [bestR_2 (by omega) (by omega)]
  exact be12_ok hn rfl hw
theorem bw13 {n : Int} (hn : in64 n) (hw : bl (zigN n) = 13) : FnOk Tryz.prog 205 (arg n) [] (bestR (zigN n)) [] := by
  have h1 := bl_up hw
  have h0 := bl_ge hw
  simp only [Nat.reducePow] at h1
  simp only [Nat.reducePow] at h0
  rw [bestR_2 (by omega) (by omega)]
  exact be13_ok hn rfl hw
theorem bw14 {n : Int} (hn : in64 n) (hw : bl (zigN n) = 14) : FnOk Tryz.prog 205 (arg n) [] (bestR (zigN n)) [] := by
  have h1 := bl_up hw
  have h0 := bl_ge hw
  simp only [Nat.reducePow] at h1
  simp only [Nat.reducePow] at h0
  rw [bestR_2 (by omega) (by omega)]
  exact be14_ok hn rfl hw
theorem bw15 {n : Int} (hn : in64 n) (hw : bl (zigN n) = 15) : FnOk Tryz.prog 205 (arg n) [] (bestR (zigN n)) [] := by
  have h1 := bl_up hw
  have h0 := bl_ge hw
  simp only [Nat.reducePow] at h1
  simp only [Nat.reducePow] at h0
  rw [bestR_3 (by omega) (by omega)]
  exact be15_ok hn rfl hw
theorem bw16 {n : Int} (hn : in64 n) (hw : bl (zigN n) = 16) : FnOk Tryz.prog 205 (arg n) [] (bestR (zigN n)) [] := by
  have h1 := bl_up hw
  have h0 := bl_ge hw
  simp only [Nat.reducePow] at h1
  simp only [Nat.reducePow] at h0
  rw [bestR_3 (by omega) (by omega)]
  exact be16_ok hn rfl hw
theorem bw17 {n : Int} (hn : in64 n) (hw : bl (zigN n) = 17) : FnOk Tryz.prog 205 (arg n) [] (bestR (zigN n)) [] := by
  have h1 := bl_up hw
  have h0 := bl_ge hw
  simp only [Nat.reducePow] at h1
  simp only [Nat.reducePow] at h0
  rw [bestR_3 (by omega) (by omega)]
  exact be17_ok hn rfl hw
theorem bw18 {n : Int} (hn : in64 n) (hw : bl (zigN n) = 18) : FnOk Tryz.prog 205 (arg n) [] (bestR (zigN n)) [] := by
  have h1 := bl_up hw
  have h0 := bl_ge hw
  simp only [Nat.reducePow] at h1
  simp only [Nat.reducePow] at h0
  rw [bestR_3 (by omega) (by omega)]
  exact be18_ok hn rfl hw
theorem bw19 {n : Int} (hn : in64 n) (hw : bl (zigN n) = 19) : FnOk Tryz.prog 205 (arg n) [] (bestR (zigN n)) [] := by
  have h1 := bl_up hw
  have h0 := bl_ge hw
  simp only [Nat.reducePow] at h1
  simp only [Nat.reducePow] at h0
  rw [bestR_3 (by omega) (by omega)]
  exact be19_ok hn rfl hw
theorem bw20 {n : Int} (hn : in64 n) (hw : bl (zigN n) = 20) : FnOk Tryz.prog 205 (arg n) [] (bestR (zigN n)) [] := by
  have h1 := bl_up hw
  have h0 := bl_ge hw
  simp only [Nat.reducePow] at h1
  simp only [Nat.reducePow] at h0
  rw [bestR_3 (by omega) (by omega)]
  exact be20_ok hn rfl hw
theorem bw21 {n : Int} (hn : in64 n) (hw : bl (zigN n) = 21) : FnOk Tryz.prog 205 (arg n) [] (bestR (zigN n)) [] := by
  have h1 := bl_up hw
  have h0 := bl_ge hw
  simp only [Nat.reducePow] at h1
  simp only [Nat.reducePow] at h0
  rw [bestR_3 (by omega) (by omega)]
  exact be21_ok hn rfl hw
theorem bw22 {n : Int} (hn : in64 n) (hw : bl (zigN n) = 22) : FnOk Tryz.prog 205 (arg n) [] (bestR (zigN n)) [] := by
  have h1 := bl_up hw
  have h0 := bl_ge hw
  simp only [Nat.reducePow] at h1
  simp only [Nat.reducePow] at h0
  rw [bestR_4 (by omega) (by omega)]
  exact be22_ok hn rfl hw
theorem bw23 {n : Int} (hn : in64 n) (hw : bl (zigN n) = 23) : FnOk Tryz.prog 205 (arg n) [] (bestR (zigN n)) [] := by
  have h1 := bl_up hw
  have h0 := bl_ge hw
  simp only [Nat.reducePow] at h1
  simp only [Nat.reducePow] at h0
  rw [bestR_4 (by omega) (by omega)]
  exact be23_ok hn rfl hw
theorem bw24 {n : Int} (hn : in64 n) (hw : bl (zigN n) = 24) : FnOk Tryz.prog 205 (arg n) [] (bestR (zigN n)) [] := by
  have h1 := bl_up hw
  have h0 := bl_ge hw
  simp only [Nat.reducePow] at h1
  simp only [Nat.reducePow] at h0
  rw [bestR_4 (by omega) (by omega)]
  exact be24_ok hn rfl hw
theorem bw25 {n : Int} (hn : in64 n) (hw : bl (zigN n) = 25) : FnOk Tryz.prog 205 (arg n) [] (bestR (zigN n)) [] := by
  have h1 := bl_up hw
  have h0 := bl_ge hw
  simp only [Nat.reducePow] at h1
  simp only [Nat.reducePow] at h0
  rw [bestR_4 (by omega) (by omega)]
  exact be25_ok hn rfl hw
theorem bw26 {n : Int} (hn : in64 n) (hw : bl (zigN n) = 26) : FnOk Tryz.prog 205 (arg n) [] (bestR (zigN n)) [] := by
  have h1 := bl_up hw
  have h0 := bl_ge hw
  simp only [Nat.reducePow] at h1
  simp only [Nat.reducePow] at h0
  rw [bestR_4 (by omega) (by omega)]
  exact be26_ok hn rfl hw
theorem bw27 {n : Int} (hn : in64 n) (hw : bl (zigN n) = 27) : FnOk Tryz.prog 205 (arg n) [] (bestR (zigN n)) [] := by
  have h1 := bl_up hw
  have h0 := bl_ge hw
  simp only [Nat.reducePow] at h1
  simp only [Nat.reducePow] at h0
  rw [bestR_4 (by omega) (by omega)]
  exact be27_ok hn rfl hw
theorem bw28 {n : Int} (hn : in64 n) (hw : bl (zigN n) = 28) : FnOk Tryz.prog 205 (arg n) [] (bestR (zigN n)) [] := by
  have h1 := bl_up hw
  have h0 := bl_ge hw
  simp only [Nat.reducePow] at h1
  simp only [Nat.reducePow] at h0
  rw [bestR_4 (by omega) (by omega)]
  exact be28_ok hn rfl hw
theorem bw29 {n : Int} (hn : in64 n) (hw : bl (zigN n) = 29) : FnOk Tryz.prog 205 (arg n) [] (bestR (zigN n)) [] := by
  have h1 := bl_up hw
  have h0 := bl_ge hw
  simp only [Nat.reducePow] at h1
  simp only [Nat.reducePow] at h0
  rw [bestR_5 (by omega) (by omega)]
  exact be29_ok hn rfl hw
theorem bw30 {n : Int} (hn : in64 n) (hw : bl (zigN n) = 30) : FnOk Tryz.prog 205 (arg n) [] (bestR (zigN n)) [] := by
  have h1 := bl_up hw
  have h0 := bl_ge hw
  simp only [Nat.reducePow] at h1
  simp only [Nat.reducePow] at h0
  rw [bestR_5 (by omega) (by omega)]
  exact be30_ok hn rfl hw
theorem bw31 {n : Int} (hn : in64 n) (hw : bl (zigN n) = 31) : FnOk Tryz.prog 205 (arg n) [] (bestR (zigN n)) [] := by
  have h1 := bl_up hw
  have h0 := bl_ge hw
  simp only [Nat.reducePow] at h1
  simp only [Nat.reducePow] at h0
  rw [bestR_5 (by omega) (by omega)]
  exact be31_ok hn rfl hw
theorem bw32 {n : Int} (hn : in64 n) (hw : bl (zigN n) = 32) : FnOk Tryz.prog 205 (arg n) [] (bestR (zigN n)) [] := by
  have h1 := bl_up hw
  have h0 := bl_ge hw
  simp only [Nat.reducePow] at h1
  simp only [Nat.reducePow] at h0
  rw [bestR_5 (by omega) (by omega)]
  exact be32_ok hn rfl hw
theorem bw33 {n : Int} (hn : in64 n) (hw : bl (zigN n) = 33) : FnOk Tryz.prog 205 (arg n) [] (bestR (zigN n)) [] := by
  have h1 := bl_up hw
  have h0 := bl_ge hw
  simp only [Nat.reducePow] at h1
  simp only [Nat.reducePow] at h0
  rw [bestR_5 (by omega) (by omega)]
  exact be33_ok hn rfl hw
theorem bw34 {n : Int} (hn : in64 n) (hw : bl (zigN n) = 34) : FnOk Tryz.prog 205 (arg n) [] (bestR (zigN n)) [] := by
  have h1 := bl_up hw
  have h0 := bl_ge hw
  simp only [Nat.reducePow] at h1
  simp only [Nat.reducePow] at h0
  rw [bestR_5 (by omega) (by omega)]
  exact be34_ok hn rfl hw
theorem bw35 {n : Int} (hn : in64 n) (hw : bl (zigN n) = 35) : FnOk Tryz.prog 205 (arg n) [] (bestR (zigN n)) [] := by
  have h1 := bl_up hw
  have h0 := bl_ge hw
  simp only [Nat.reducePow] at h1
  simp only [Nat.reducePow] at h0
  rw [bestR_5 (by omega) (by omega)]
  exact be35_ok hn rfl hw
theorem bw36 {n : Int} (hn : in64 n) (hw : bl (zigN n) = 36) : FnOk Tryz.prog 205 (arg n) [] (bestR (zigN n)) [] := by
  have h1 := bl_up hw
  have h0 := bl_ge hw
  simp only [Nat.reducePow] at h1
  simp only [Nat.reducePow] at h0
  rw [bestR_6 (by omega) (by omega)]
  exact be36_ok hn rfl hw
theorem bw37 {n : Int} (hn : in64 n) (hw : bl (zigN n) = 37) : FnOk Tryz.prog 205 (arg n) [] (bestR (zigN n)) [] := by
  have h1 := bl_up hw
  have h0 := bl_ge hw
  simp only [Nat.reducePow] at h1
  simp only [Nat.reducePow] at h0
  rw [bestR_6 (by omega) (by omega)]
  exact be37_ok hn rfl hw
theorem bw38 {n : Int} (hn : in64 n) (hw : bl (zigN n) = 38) : FnOk Tryz.prog 205 (arg n) [] (bestR (zigN n)) [] := by
  have h1 := bl_up hw
  have h0 := bl_ge hw
  simp only [Nat.reducePow] at h1
  simp only [Nat.reducePow] at h0
  rw [bestR_6 (by omega) (by omega)]
  exact be38_ok hn rfl hw
theorem bw39 {n : Int} (hn : in64 n) (hw : bl (zigN n) = 39) : FnOk Tryz.prog 205 (arg n) [] (bestR (zigN n)) [] := by
  have h1 := bl_up hw
  have h0 := bl_ge hw
  simp only [Nat.reducePow] at h1
  simp only [Nat.reducePow] at h0
  rw [bestR_6 (by omega) (by omega)]
  exact be39_ok hn rfl hw
theorem bw40 {n : Int} (hn : in64 n) (hw : bl (zigN n) = 40) : FnOk Tryz.prog 205 (arg n) [] (bestR (zigN n)) [] := by
  have h1 := bl_up hw
  have h0 := bl_ge hw
  simp only [Nat.reducePow] at h1
  simp only [Nat.reducePow] at h0
  rw [bestR_6 (by omega) (by omega)]
  exact be40_ok hn rfl hw
theorem bw41 {n : Int} (hn : in64 n) (hw : bl (zigN n) = 41) : FnOk Tryz.prog 205 (arg n) [] (bestR (zigN n)) [] := by
  have h1 := bl_up hw
  have h0 := bl_ge hw
  simp only [Nat.reducePow] at h1
  simp only [Nat.reducePow] at h0
  rw [bestR_6 (by omega) (by omega)]
  exact be41_ok hn rfl hw
theorem bw42 {n : Int} (hn : in64 n) (hw : bl (zigN n) = 42) : FnOk Tryz.prog 205 (arg n) [] (bestR (zigN n)) [] := by
  have h1 := bl_up hw
  have h0 := bl_ge hw
  simp only [Nat.reducePow] at h1
  simp only [Nat.reducePow] at h0
  rw [bestR_6 (by omega) (by omega)]
  exact be42_ok hn rfl hw
theorem bw43 {n : Int} (hn : in64 n) (hw : bl (zigN n) = 43) : FnOk Tryz.prog 205 (arg n) [] (bestR (zigN n)) [] := by
  have h1 := bl_up hw
  have h0 := bl_ge hw
  simp only [Nat.reducePow] at h1
  simp only [Nat.reducePow] at h0
  rw [bestR_7 (by omega) (by omega)]
  exact be43_ok hn rfl hw
theorem bw44 {n : Int} (hn : in64 n) (hw : bl (zigN n) = 44) : FnOk Tryz.prog 205 (arg n) [] (bestR (zigN n)) [] := by
  have h1 := bl_up hw
  have h0 := bl_ge hw
  simp only [Nat.reducePow] at h1
  simp only [Nat.reducePow] at h0
  rw [bestR_7 (by omega) (by omega)]
  exact be44_ok hn rfl hw
theorem bw45 {n : Int} (hn : in64 n) (hw : bl (zigN n) = 45) : FnOk Tryz.prog 205 (arg n) [] (bestR (zigN n)) [] := by
  have h1 := bl_up hw
  have h0 := bl_ge hw
  simp only [Nat.reducePow] at h1
  simp only [Nat.reducePow] at h0
  rw [bestR_7 (by omega) (by omega)]
  exact be45_ok hn rfl hw
theorem bw46 {n : Int} (hn : in64 n) (hw : bl (zigN n) = 46) : FnOk Tryz.prog 205 (arg n) [] (bestR (zigN n)) [] := by
  have h1 := bl_up hw
  have h0 := bl_ge hw
  simp only [Nat.reducePow] at h1
  simp only [Nat.reducePow] at h0
  rw [bestR_7 (by omega) (by omega)]
  exact be46_ok hn rfl hw
theorem bw47 {n : Int} (hn : in64 n) (hw : bl (zigN n) = 47) : FnOk Tryz.prog 205 (arg n) [] (bestR (zigN n)) [] := by
  have h1 := bl_up hw
  have h0 := bl_ge hw
  simp only [Nat.reducePow] at h1
  simp only [Nat.reducePow] at h0
  rw [bestR_7 (by omega) (by omega)]
  exact be47_ok hn rfl hw
theorem bw48 {n : Int} (hn : in64 n) (hw : bl (zigN n) = 48) : FnOk Tryz.prog 205 (arg n) [] (bestR (zigN n)) [] := by
  have h1 := bl_up hw
  have h0 := bl_ge hw
  simp only [Nat.reducePow] at h1
  simp only [Nat.reducePow] at h0
  rw [bestR_7 (by omega) (by omega)]
  exact be48_ok hn rfl hw
theorem bw49 {n : Int} (hn : in64 n) (hw : bl (zigN n) = 49) : FnOk Tryz.prog 205 (arg n) [] (bestR (zigN n)) [] := by
  have h1 := bl_up hw
  have h0 := bl_ge hw
  simp only [Nat.reducePow] at h1
  simp only [Nat.reducePow] at h0
  rw [bestR_7 (by omega) (by omega)]
  exact be49_ok hn rfl hw
theorem bw50 {n : Int} (hn : in64 n) (hw : bl (zigN n) = 50) : FnOk Tryz.prog 205 (arg n) [] (bestR (zigN n)) [] := by
  have h1 := bl_up hw
  have h0 := bl_ge hw
  simp only [Nat.reducePow] at h1
  simp only [Nat.reducePow] at h0
  rw [bestR_8 (by omega) (by omega)]
  exact be50_ok hn rfl hw
theorem bw51 {n : Int} (hn : in64 n) (hw : bl (zigN n) = 51) : FnOk Tryz.prog 205 (arg n) [] (bestR (zigN n)) [] := by
  have h1 := bl_up hw
  have h0 := bl_ge hw
  simp only [Nat.reducePow] at h1
  simp only [Nat.reducePow] at h0
  rw [bestR_8 (by omega) (by omega)]
  exact be51_ok hn rfl hw
theorem bw52 {n : Int} (hn : in64 n) (hw : bl (zigN n) = 52) : FnOk Tryz.prog 205 (arg n) [] (bestR (zigN n)) [] := by
  have h1 := bl_up hw
  have h0 := bl_ge hw
  simp only [Nat.reducePow] at h1
  simp only [Nat.reducePow] at h0
  rw [bestR_8 (by omega) (by omega)]
  exact be52_ok hn rfl hw
theorem bw53 {n : Int} (hn : in64 n) (hw : bl (zigN n) = 53) : FnOk Tryz.prog 205 (arg n) [] (bestR (zigN n)) [] := by
  have h1 := bl_up hw
  have h0 := bl_ge hw
  simp only [Nat.reducePow] at h1
  simp only [Nat.reducePow] at h0
  rw [bestR_8 (by omega) (by omega)]
  exact be53_ok hn rfl hw
theorem bw54 {n : Int} (hn : in64 n) (hw : bl (zigN n) = 54) : FnOk Tryz.prog 205 (arg n) [] (bestR (zigN n)) [] := by
  have h1 := bl_up hw
  have h0 := bl_ge hw
  simp only [Nat.reducePow] at h1
  simp only [Nat.reducePow] at h0
  rw [bestR_8 (by omega) (by omega)]
  exact be54_ok hn rfl hw
theorem bw55 {n : Int} (hn : in64 n) (hw : bl (zigN n) = 55) : FnOk Tryz.prog 205 (arg n) [] (bestR (zigN n)) [] := by
  have h1 := bl_up hw
  have h0 := bl_ge hw
  simp only [Nat.reducePow] at h1
  simp only [Nat.reducePow] at h0
  rw [bestR_8 (by omega) (by omega)]
  exact be55_ok hn rfl hw
theorem bw56 {n : Int} (hn : in64 n) (hw : bl (zigN n) = 56) : FnOk Tryz.prog 205 (arg n) [] (bestR (zigN n)) [] := by
  have h1 := bl_up hw
  have h0 := bl_ge hw
  simp only [Nat.reducePow] at h1
  simp only [Nat.reducePow] at h0
  rw [bestR_8 (by omega) (by omega)]
  exact be56_ok hn rfl hw
theorem bw57 {n : Int} (hn : in64 n) (hw : bl (zigN n) = 57) : FnOk Tryz.prog 205 (arg n) [] (bestR (zigN n)) [] := by
  have h1 := bl_up hw
  have h0 := bl_ge hw
  simp only [Nat.reducePow] at h1
  simp only [Nat.reducePow] at h0
  rw [bestR_9 (by omega) (by omega)]
  exact be57_ok hn rfl hw
theorem bw58 {n : Int} (hn : in64 n) (hw : bl (zigN n) = 58) : FnOk Tryz.prog 205 (arg n) [] (bestR (zigN n)) [] := by
  have h1 := bl_up hw
  have h0 := bl_ge hw
  simp only [Nat.reducePow] at h1
  simp only [Nat.reducePow] at h0
  rw [bestR_9 (by omega) (by omega)]
  exact be58_ok hn rfl hw
theorem bw59 {n : Int} (hn : in64 n) (hw : bl (zigN n) = 59) : FnOk Tryz.prog 205 (arg n) [] (bestR (zigN n)) [] := by
  have h1 := bl_up hw
  have h0 := bl_ge hw
  simp only [Nat.reducePow] at h1
  simp only [Nat.reducePow] at h0
  rw [bestR_9 (by omega) (by omega)]
  exact be59_ok hn rfl hw
theorem bw60 {n : Int} (hn : in64 n) (hw : bl (zigN n) = 60) : FnOk Tryz.prog 205 (arg n) [] (bestR (zigN n)) [] := by
  have h1 := bl_up hw
  have h0 := bl_ge hw
  simp only [Nat.reducePow] at h1
  simp only [Nat.reducePow] at h0
  rw [bestR_9 (by omega) (by omega)]
  exact be60_ok hn rfl hw
theorem bw61 {n : Int} (hn : in64 n) (hw : bl (zigN n) = 61) : FnOk Tryz.prog 205 (arg n) [] (bestR (zigN n)) [] := by
  have h1 := bl_up hw
  have h0 := bl_ge hw
  simp only [Nat.reducePow] at h1
  simp only [Nat.reducePow] at h0
  rw [bestR_9 (by omega) (by omega)]
  exact be61_ok hn rfl hw
theorem bw62 {n : Int} (hn : in64 n) (hw : bl (zigN n) = 62) : FnOk Tryz.prog 205 (arg n) [] (bestR (zigN n)) [] := by
  have h1 := bl_up hw
  have h0 := bl_ge hw
  simp only [Nat.reducePow] at h1
  simp only [Nat.reducePow] at h0
  rw [bestR_9 (by omega) (by omega)]
  exact be62_ok hn rfl hw
theorem bw63 {n : Int} (hn : in64 n) (hw : bl (zigN n) = 63) : FnOk Tryz.prog 205 (arg n) [] (bestR (zigN n)) [] := by
  have h1 := bl_up hw
  have h0 := bl_ge hw
  simp only [Nat.reducePow] at h1
  simp only [Nat.reducePow] at h0
  rw [bestR_9 (by omega) (by omega)]
  exact be63_ok hn rfl hw
theorem bw64 {n : Int} (hn : in64 n) (hw : bl (zigN n) = 64) : FnOk Tryz.prog 205 (arg n) [] (bestR (zigN n)) [] := by
  have h1 := bl_up hw
  have h0 := bl_ge hw
  simp only [Nat.reducePow] at h1
  simp only [Nat.reducePow] at h0
  rw [bestR_10 (by omega)]
  exact be64_ok hn rfl hw
theorem best_n {n : Int} (hn : in64 n) : FnOk Tryz.prog 205 (arg n) [] (bestR (zigN n)) [] := by
  have h : bl (zigN n) ≤ 64 := (bl_lt _ _).2 (by have := zig_lt hn; simpa using this)
  rcases Nat.eq_or_lt_of_le h with e | h
  · exact bw64 hn e
  replace h := Nat.le_of_lt_succ h
  rcases Nat.eq_or_lt_of_le h with e | h
  · exact bw63 hn e
  replace h := Nat.le_of_lt_succ h
  rcases Nat.eq_or_lt_of_le h with e | h
  · exact bw62 hn e
  replace h := Nat.le_of_lt_succ h
  rcases Nat.eq_or_lt_of_le h with e | h
  · exact bw61 hn e
  replace h := Nat.le_of_lt_succ h
  rcases Nat.eq_or_lt_of_le h with e | h
  · exact bw60 hn e
  replace h := Nat.le_of_lt_succ h
  rcases Nat.eq_or_lt_of_le h with e | h
  · exact bw59 hn e
  replace h := Nat.le_of_lt_succ h
  rcases Nat.eq_or_lt_of_le h with e | h
  · exact bw58 hn e
  replace h := Nat.le_of_lt_succ h
  rcases Nat.eq_or_lt_of_le h with e | h
  · exact bw57 hn e
  replace h := Nat.le_of_lt_succ h
  rcases Nat.eq_or_lt_of_le h with e | h
  · exact bw56 hn e
  replace h := Nat.le_of_lt_succ h
  rcases Nat.eq_or_lt_of_le h with e | h
  · exact bw55 hn e
  replace h := Nat.le_of_lt_succ h
  rcases Nat.eq_or_lt_of_le h with e | h
  · exact bw54 hn e
  replace h := Nat.le_of_lt_succ h
  rcases Nat.eq_or_lt_of_le h with e | h
  · exact bw53 hn e
  replace h := Nat.le_of_lt_succ h
  rcases Nat.eq_or_lt_of_le h with e | h
  · exact bw52 hn e
  replace h := Nat.le_of_lt_succ h
  rcases Nat.eq_or_lt_of_le h with e | h
  · exact bw51 hn e
  replace h := Nat.le_of_lt_succ h
  rcases Nat.eq_or_lt_of_le h with e | h
  · exact bw50 hn e
  replace h := Nat.le_of_lt_succ h
  rcases Nat.eq_or_lt_of_le h with e | h
  · exact bw49 hn e
  replace h := Nat.le_of_lt_succ h
  rcases Nat.eq_or_lt_of_le h with e | h
  · exact bw48 hn e
  replace h := Nat.le_of_lt_succ h
  rcases Nat.eq_or_lt_of_le h with e | h
  · exact bw47 hn e
  replace h := Nat.le_of_lt_succ h
  rcases Nat.eq_or_lt_of_le h with e | h
  · exact bw46 hn e
  replace h := Nat.le_of_lt_succ h
  rcases Nat.eq_or_lt_of_le h with e | h
  · exact bw45 hn e
  replace h := Nat.le_of_lt_succ h
  rcases Nat.eq_or_lt_of_le h with e | h
  · exact bw44 hn e
  replace h := Nat.le_of_lt_succ h
  rcases Nat.eq_or_lt_of_le h with e | h
  · exact bw43 hn e
  replace h := Nat.le_of_lt_succ h
  rcases Nat.eq_or_lt_of_le h with e | h
  · exact bw42 hn e
  replace h := Nat.le_of_lt_succ h
  rcases Nat.eq_or_lt_of_le h with e | h
  · exact bw41 hn e
  replace h := Nat.le_of_lt_succ h
  rcases Nat.eq_or_lt_of_le h with e | h
  · exact bw40 hn e
  replace h := Nat.le_of_lt_succ h
  rcases Nat.eq_or_lt_of_le h with e | h
  · exact bw39 hn e
  replace h := Nat.le_of_lt_succ h
  rcases Nat.eq_or_lt_of_le h with e | h
  · exact bw38 hn e
  replace h := Nat.le_of_lt_succ h
  rcases Nat.eq_or_lt_of_le h with e | h
  · exact bw37 hn e
  replace h := Nat.le_of_lt_succ h
  rcases Nat.eq_or_lt_of_le h with e | h
  · exact bw36 hn e
  replace h := Nat.le_of_lt_succ h
  rcases Nat.eq_or_lt_of_le h with e | h
  · exact bw35 hn e
  replace h := Nat.le_of_lt_succ h
  rcases Nat.eq_or_lt_of_le h with e | h
  · exact bw34 hn e
  replace h := Nat.le_of_lt_succ h
  rcases Nat.eq_or_lt_of_le h with e | h
  · exact bw33 hn e
  replace h := Nat.le_of_lt_succ h
  rcases Nat.eq_or_lt_of_le h with e | h
  · exact bw32 hn e
  replace h := Nat.le_of_lt_succ h
  rcases Nat.eq_or_lt_of_le h with e | h
  · exact bw31 hn e
  replace h := Nat.le_of_lt_succ h
  rcases Nat.eq_or_lt_of_le h with e | h
  · exact bw30 hn e
  replace h := Nat.le_of_lt_succ h
  rcases Nat.eq_or_lt_of_le h with e | h
  · exact bw29 hn e
  replace h := Nat.le_of_lt_succ h
  rcases Nat.eq_or_lt_of_le h with e | h
  · exact bw28 hn e
  replace h := Nat.le_of_lt_succ h
  rcases Nat.eq_or_lt_of_le h with e | h
  · exact bw27 hn e
  replace h := Nat.le_of_lt_succ h
  rcases Nat.eq_or_lt_of_le h with e | h
  · exact bw26 hn e
  replace h := Nat.le_of_lt_succ h
  rcases Nat.eq_or_lt_of_le h with e | h
  · exact bw25 hn e
  replace h := Nat.le_of_lt_succ h
  rcases Nat.eq_or_lt_of_le h with e | h
  · exact bw24 hn e
  replace h := Nat.le_of_lt_succ h
  rcases Nat.eq_or_lt_of_le h with e | h
  · exact bw23 hn e
  replace h := Nat.le_of_lt_succ h
  rcases Nat.eq_or_lt_of_le h with e | h
  · exact bw22 hn e
  replace h := Nat.le_of_lt_succ h
  rcases Nat.eq_or_lt_of_le h with e | h
  · exact bw21 hn e
  replace h := Nat.le_of_lt_succ h
  rcases Nat.eq_or_lt_of_le h with e | h
  · exact bw20 hn e
  replace h := Nat.le_of_lt_succ h
  rcases Nat.eq_or_lt_of_le h with e | h
  · exact bw19 hn e
  replace h := Nat.le_of_lt_succ h
  rcases Nat.eq_or_lt_of_le h with e | h
  · exact bw18 hn e
  replace h := Nat.le_of_lt_succ h
  rcases Nat.eq_or_lt_of_le h with e | h
  · exact bw17 hn e
  replace h := Nat.le_of_lt_succ h
  rcases Nat.eq_or_lt_of_le h with e | h
  · exact bw16 hn e
  replace h := Nat.le_of_lt_succ h
  rcases Nat.eq_or_lt_of_le h with e | h
  · exact bw15 hn e
  replace h := Nat.le_of_lt_succ h
  rcases Nat.eq_or_lt_of_le h with e | h
  · exact bw14 hn e
  replace h := Nat.le_of_lt_succ h
  rcases Nat.eq_or_lt_of_le h with e | h
  · exact bw13 hn e
  replace h := Nat.le_of_lt_succ h
  rcases Nat.eq_or_lt_of_le h with e | h
  · exact bw12 hn e
  replace h := Nat.le_of_lt_succ h
  rcases Nat.eq_or_lt_of_le h with e | h
  · exact bw11 hn e
  replace h := Nat.le_of_lt_succ h
  rcases Nat.eq_or_lt_of_le h with e | h
  · exact bw10 hn e
  replace h := Nat.le_of_lt_succ h
  rcases Nat.eq_or_lt_of_le h with e | h
  · exact bw9 hn e
  replace h := Nat.le_of_lt_succ h
  rcases Nat.eq_or_lt_of_le h with e | h
  · exact bw8 hn e
  replace h := Nat.le_of_lt_succ h
  rcases Nat.eq_or_lt_of_le h with e | h
  · exact bw7 hn e
  replace h := Nat.le_of_lt_succ h
  rcases Nat.eq_or_lt_of_le h with e | h
  · exact bw6 hn e
  replace h := Nat.le_of_lt_succ h
  rcases Nat.eq_or_lt_of_le h with e | h
  · exact bw5 hn e
  replace h := Nat.le_of_lt_succ h
  rcases Nat.eq_or_lt_of_le h with e | h
  · exact bw4 hn e
  replace h := Nat.le_of_lt_succ h
  rcases Nat.eq_or_lt_of_le h with e | h
  · exact bw3 hn e
  replace h := Nat.le_of_lt_succ h
  rcases Nat.eq_or_lt_of_le h with e | h
  · exact bw2 hn e
  replace h := Nat.le_of_lt_succ h
  rcases Nat.eq_or_lt_of_le h with e | h
  · exact bw1 hn e
  replace h := Nat.le_of_lt_succ h
  exact bw0 hn (Nat.le_zero.1 h)
/-! ### points -/
def ub (i : Nat) : Nat := [13844065254536904704, 13842939354630062080, 13841813454723219456, 13840687554816376832, 13839561654909534208, 13837309855095848960, 13835058055282163712, 13830554455654793216, 0, 4607182418800017408, 4611686018427387904, 4613937818241073152, 4616189618054758400, 4617315517961601024, 4618441417868443648, 4619567317775286272, 4620693217682128896].getD i 0
def yb (i : Nat) : Nat := [15, 13, 11, 9, 7, 5, 3, 1, 0, 2, 4, 6, 8, 10, 12, 14, 16].getD i 0
abbrev vP (u : Nat) : List AV := [.p (.int .i64 3), .p (.int .i64 0), .p (.string ⟨#[]⟩), .p (.complex .f64 u 4607182418800017408)]
abbrev z0 : List AV := [.p (.int .i64 0), .p (.int .i64 0), .p (.string ⟨#[]⟩), .p (.complex .f64 0 0)]
abbrev argP (u : Nat) : List AV := [.lst 1 (vP u), .p (.int .i64 3)]
abbrev resP (y : Nat) : AV := .tup [.lst 5 (u8A [1, 1, 1, y, 2]), .p (.int .i64 1), .p (.int .i64 0)]
abbrev stP (u : Nat) : AV := .agg ([.p (.int .i64 3), .p (.int .i64 1), .p (.int .i64 0)] ++ z0 ++ z0 ++ [.p (.complex .f64 u 4607182418800017408), .p (.complex .f64 u 4607182418800017408)])
theorem bp0 : FnOk Tryz.prog 205 (argP (ub 0)) [] (resP (yb 0)) [] :=
  FnOk.frzR (x := Vm.runC Tryz.prog mB 100000 205 (argP (ub 0)) []) (fun r hp e => runC_ok mB_ok 100000 _ _ _ _ _ e) (by kernel_rfl)
theorem bp1 : FnOk Tryz.prog 205 (argP (ub 1)) [] (resP (yb 1)) [] :=
  FnOk.frzR (x := Vm.runC Tryz.prog mB 100000 205 (argP (ub 1)) []) (fun r hp e => runC_ok mB_ok 100000 _ _ _ _ _ e) (by kernel_rfl)
theorem bp2 : FnOk Tryz.prog 205 (argP (ub 2)) [] (resP (yb 2)) [] :=
  FnOk.frzR (x := Vm.runC Tryz.prog mB 100000 205 (argP (ub 2)) []) (fun r hp e => runC_ok mB_ok 100000 _ _ _ _ _ e) (by kernel_rfl)
theorem bp3 : FnOk Tryz.prog 205 (argP (ub 3)) [] (resP (yb 3)) [] :=
  FnOk.frzR (x := Vm.runC Tryz.prog mB 100000 205 (argP (ub 3)) []) (fun r hp e => runC_ok mB_ok 100000 _ _ _ _ _ e) (by kernel_rfl)
theorem bp4 : FnOk Tryz.prog 205 (argP (ub 4)) [] (resP (yb 4)) [] :=
  FnOk.frzR (x := Vm.runC Tryz.prog mB 100000 205 (argP (ub 4)) []) (fun r hp e => runC_ok mB_ok 100000 _ _ _ _ _ e) (by kernel_rfl)
theorem bp5 : FnOk Tryz.prog 205 (argP (ub 5)) [] (resP (yb 5)) [] :=
  FnOk.frzR (x := Vm.runC Tryz.prog mB 100000 205 (argP (ub 5)) []) (fun r hp e => runC_ok mB_ok 100000 _ _ _ _ _ e) (by kernel_rfl)
theorem bp6 : FnOk Tryz.prog 205 (argP (ub 6)) [] (resP (yb 6)) [] :=
  FnOk.frzR (x := Vm.runC Tryz.prog mB 100000 205 (argP (ub 6)) []) (fun r hp e => runC_ok mB_ok 100000 _ _ _ _ _ e) (by kernel_rfl)
theorem bp7 : FnOk Tryz.prog 205 (argP (ub 7)) [] (resP (yb 7)) [] :=
  FnOk.frzR (x := Vm.runC Tryz.prog mB 100000 205 (argP (ub 7)) []) (fun r hp e => runC_ok mB_ok 100000 _ _ _ _ _ e) (by kernel_rfl)
theorem bp8 : FnOk Tryz.prog 205 (argP (ub 8)) [] (resP (yb 8)) [] :=
  FnOk.frzR (x := Vm.runC Tryz.prog mB 100000 205 (argP (ub 8)) []) (fun r hp e => runC_ok mB_ok 100000 _ _ _ _ _ e) (by kernel_rfl)
theorem bp9 : FnOk Tryz.prog 205 (argP (ub 9)) [] (resP (yb 9)) [] :=
  FnOk.frzR (x := Vm.runC Tryz.prog mB 100000 205 (argP (ub 9)) []) (fun r hp e => runC_ok mB_ok 100000 _ _ _ _ _ e) (by kernel_rfl)
theorem bp10 : FnOk Tryz.prog 205 (argP (ub 10)) [] (resP (yb 10)) [] :=
  FnOk.frzR (x := Vm.runC Tryz.prog mB 100000 205 (argP (ub 10)) []) (fun r hp e => runC_ok mB_ok 100000 _ _ _ _ _ e) (by kernel_rfl)
theorem bp11 : FnOk Tryz.prog 205 (argP (ub 11)) [] (resP (yb 11)) [] :=
  FnOk.frzR (x := Vm.runC Tryz.prog mB 100000 205 (argP (ub 11)) []) (fun r hp e => runC_ok mB_ok 100000 _ _ _ _ _ e) (by kernel_rfl)
theorem bp12 : FnOk Tryz.prog 205 (argP (ub 12)) [] (resP (yb 12)) [] :=
  FnOk.frzR (x := Vm.runC Tryz.prog mB 100000 205 (argP (ub 12)) []) (fun r hp e => runC_ok mB_ok 100000 _ _ _ _ _ e) (by kernel_rfl)
theorem bp13 : FnOk Tryz.prog 205 (argP (ub 13)) [] (resP (yb 13)) [] :=
  FnOk.frzR (x := Vm.runC Tryz.prog mB 100000 205 (argP (ub 13)) []) (fun r hp e => runC_ok mB_ok 100000 _ _ _ _ _ e) (by kernel_rfl)
theorem bp14 : FnOk Tryz.prog 205 (argP (ub 14)) [] (resP (yb 14)) [] :=
  FnOk.frzR (x := Vm.runC Tryz.prog mB 100000 205 (argP (ub 14)) []) (fun r hp e => runC_ok mB_ok 100000 _ _ _ _ _ e) (by kernel_rfl)
theorem bp15 : FnOk Tryz.prog 205 (argP (ub 15)) [] (resP (yb 15)) [] :=
  FnOk.frzR (x := Vm.runC Tryz.prog mB 100000 205 (argP (ub 15)) []) (fun r hp e => runC_ok mB_ok 100000 _ _ _ _ _ e) (by kernel_rfl)
theorem bp16 : FnOk Tryz.prog 205 (argP (ub 16)) [] (resP (yb 16)) [] :=
  FnOk.frzR (x := Vm.runC Tryz.prog mB 100000 205 (argP (ub 16)) []) (fun r hp e => runC_ok mB_ok 100000 _ _ _ _ _ e) (by kernel_rfl)
theorem bp_all : ∀ i, i < 17 → FnOk Tryz.prog 205 (argP (ub i)) [] (resP (yb i)) []
  | 0, _ => bp0
  | 1, _ => bp1
  | 2, _ => bp2
  | 3, _ => bp3
  | 4, _ => bp4
  | 5, _ => bp5
  | 6, _ => bp6
  | 7, _ => bp7
  | 8, _ => bp8
  | 9, _ => bp9
  | 10, _ => bp10
  | 11, _ => bp11
  | 12, _ => bp12
  | 13, _ => bp13
  | 14, _ => bp14
  | 15, _ => bp15
  | 16, _ => bp16
  | k + 17, h => absurd h (by omega)
theorem vc0 : FnOk Tryz.prog 221 ([.agg (vP (ub 0))]) [] (.p (.int .i64 0)) [] :=
  FnOk.frzR (x := Vm.runC Tryz.prog mB 100000 221 ([.agg (vP (ub 0))]) []) (fun r hp e => runC_ok mB_ok 100000 _ _ _ _ _ e) (by kernel_rfl)
theorem vc1 : FnOk Tryz.prog 221 ([.agg (vP (ub 1))]) [] (.p (.int .i64 0)) [] :=
  FnOk.frzR (x := Vm.runC Tryz.prog mB 100000 221 ([.agg (vP (ub 1))]) []) (fun r hp e => runC_ok mB_ok 100000 _ _ _ _ _ e) (by kernel_rfl)
theorem vc2 : FnOk Tryz.prog 221 ([.agg (vP (ub 2))]) [] (.p (.int .i64 0)) [] :=
  FnOk.frzR (x := Vm.runC Tryz.prog mB 100000 221 ([.agg (vP (ub 2))]) []) (fun r hp e => runC_ok mB_ok 100000 _ _ _ _ _ e) (by kernel_rfl)
theorem vc3 : FnOk Tryz.prog 221 ([.agg (vP (ub 3))]) [] (.p (.int .i64 0)) [] :=
  FnOk.frzR (x := Vm.runC Tryz.prog mB 100000 221 ([.agg (vP (ub 3))]) []) (fun r hp e => runC_ok mB_ok 100000 _ _ _ _ _ e) (by kernel_rfl)
theorem vc4 : FnOk Tryz.prog 221 ([.agg (vP (ub 4))]) [] (.p (.int .i64 0)) [] :=
  FnOk.frzR (x := Vm.runC Tryz.prog mB 100000 221 ([.agg (vP (ub 4))]) []) (fun r hp e => runC_ok mB_ok 100000 _ _ _ _ _ e) (by kernel_rfl)
theorem vc5 : FnOk Tryz.prog 221 ([.agg (vP (ub 5))]) [] (.p (.int .i64 0)) [] :=
  FnOk.frzR (x := Vm.runC Tryz.prog mB 100000 221 ([.agg (vP (ub 5))]) []) (fun r hp e => runC_ok mB_ok 100000 _ _ _ _ _ e) (by kernel_rfl)
theorem vc6 : FnOk Tryz.prog 221 ([.agg (vP (ub 6))]) [] (.p (.int .i64 0)) [] :=
  FnOk.frzR (x := Vm.runC Tryz.prog mB 100000 221 ([.agg (vP (ub 6))]) []) (fun r hp e => runC_ok mB_ok 100000 _ _ _ _ _ e) (by kernel_rfl)
theorem vc7 : FnOk Tryz.prog 221 ([.agg (vP (ub 7))]) [] (.p (.int .i64 0)) [] :=
  FnOk.frzR (x := Vm.runC Tryz.prog mB 100000 221 ([.agg (vP (ub 7))]) []) (fun r hp e => runC_ok mB_ok 100000 _ _ _ _ _ e) (by kernel_rfl)
theorem vc8 : FnOk Tryz.prog 221 ([.agg (vP (ub 8))]) [] (.p (.int .i64 0)) [] :=
  FnOk.frzR (x := Vm.runC Tryz.prog mB 100000 221 ([.agg (vP (ub 8))]) []) (fun r hp e => runC_ok mB_ok 100000 _ _ _ _ _ e) (by kernel_rfl)
theorem vc9 : FnOk Tryz.prog 221 ([.agg (vP (ub 9))]) [] (.p (.int .i64 0)) [] :=
  FnOk.frzR (x := Vm.runC Tryz.prog mB 100000 221 ([.agg (vP (ub 9))]) []) (fun r hp e => runC_ok mB_ok 100000 _ _ _ _ _ e) (by kernel_rfl)
theorem vc10 : FnOk Tryz.prog 221 ([.agg (vP (ub 10))]) [] (.p (.int .i64 0)) [] :=
  FnOk.frzR (x := Vm.runC Tryz.prog mB 100000 221 ([.agg (vP (ub 10))]) []) (fun r hp e => runC_ok mB_ok 100000 _ _ _ _ _ e) (by kernel_rfl)
theorem vc11 : FnOk Tryz.prog 221 ([.agg (vP (ub 11))]) [] (.p (.int .i64 0)) [] :=
  FnOk.frzR (x := Vm.runC Tryz.prog mB 100000 221 ([.agg (vP (ub 11))]) []) (fun r hp e => runC_ok mB_ok 100000 _ _ _ _ _ e) (by kernel_rfl)
theorem vc12 : FnOk Tryz.prog 221 ([.agg (vP (ub 12))]) [] (.p (.int .i64 0)) [] :=
  FnOk.frzR (x := Vm.runC Tryz.prog mB 100000 221 ([.agg (vP (ub 12))]) []) (fun r hp e => runC_ok mB_ok 100000 _ _ _ _ _ e) (by kernel_rfl)
theorem vc13 : FnOk Tryz.prog 221 ([.agg (vP (ub 13))]) [] (.p (.int .i64 0)) [] :=
  FnOk.frzR (x := Vm.runC Tryz.prog mB 100000 221 ([.agg (vP (ub 13))]) []) (fun r hp e => runC_ok mB_ok 100000 _ _ _ _ _ e) (by kernel_rfl)
theorem vc14 : FnOk Tryz.prog 221 ([.agg (vP (ub 14))]) [] (.p (.int .i64 0)) [] :=
  FnOk.frzR (x := Vm.runC Tryz.prog mB 100000 221 ([.agg (vP (ub 14))]) []) (fun r hp e => runC_ok mB_ok 100000 _ _ _ _ _ e) (by kernel_rfl)
theorem vc15 : FnOk Tryz.prog 221 ([.agg (vP (ub 15))]) [] (.p (.int .i64 0)) [] :=
  FnOk.frzR (x := Vm.runC Tryz.prog mB 100000 221 ([.agg (vP (ub 15))]) []) (fun r hp e => runC_ok mB_ok 100000 _ _ _ _ _ e) (by kernel_rfl)
theorem vc16 : FnOk Tryz.prog 221 ([.agg (vP (ub 16))]) [] (.p (.int .i64 0)) [] :=
  FnOk.frzR (x := Vm.runC Tryz.prog mB 100000 221 ([.agg (vP (ub 16))]) []) (fun r hp e => runC_ok mB_ok 100000 _ _ _ _ _ e) (by kernel_rfl)
theorem vc_all : ∀ i, i < 17 → FnOk Tryz.prog 221 ([.agg (vP (ub i))]) [] (.p (.int .i64 0)) []
  | 0, _ => vc0
  | 1, _ => vc1
  | 2, _ => vc2
  | 3, _ => vc3
  | 4, _ => vc4
  | 5, _ => vc5
  | 6, _ => vc6
  | 7, _ => vc7
  | 8, _ => vc8
  | 9, _ => vc9
  | 10, _ => vc10
  | 11, _ => vc11
  | 12, _ => vc12
  | 13, _ => vc13
  | 14, _ => vc14
  | 15, _ => vc15
  | 16, _ => vc16
  | k + 17, h => absurd h (by omega)
theorem so0 : FnOk Tryz.prog 104 (argP (ub 0)) [] (.tup [stP (ub 0), .p (.int .i64 0)]) [] :=
  FnOk.frzR (x := Vm.runC Tryz.prog mB 100000 104 (argP (ub 0)) []) (fun r hp e => runC_ok mB_ok 100000 _ _ _ _ _ e) (by kernel_rfl)
theorem so1 : FnOk Tryz.prog 104 (argP (ub 1)) [] (.tup [stP (ub 1), .p (.int .i64 0)]) [] :=
  FnOk.frzR (x := Vm.runC Tryz.prog mB 100000 104 (argP (ub 1)) []) (fun r hp e => runC_ok mB_ok 100000 _ _ _ _ _ e) (by kernel_rfl)
theorem so2 : FnOk Tryz.prog 104 (argP (ub 2)) [] (.tup [stP (ub 2), .p (.int .i64 0)]) [] :=
  FnOk.frzR (x := Vm.runC Tryz.prog mB 100000 104 (argP (ub 2)) []) (fun r hp e => runC_ok mB_ok 100000 _ _ _ _ _ e) (by kernel_rfl)
theorem so3 : FnOk Tryz.prog 104 (argP (ub 3)) [] (.tup [stP (ub 3), .p (.int .i64 0)]) [] :=
  FnOk.frzR (x := Vm.runC Tryz.prog mB 100000 104 (argP (ub 3)) []) (fun r hp e => runC_ok mB_ok 100000 _ _ _ _ _ e) (by kernel_rfl)
theorem so4 : FnOk Tryz.prog 104 (argP (ub 4)) [] (.tup [stP (ub 4), .p (.int .i64 0)]) [] :=
  FnOk.frzR (x := Vm.runC Tryz.prog mB 100000 104 (argP (ub 4)) []) (fun r hp e => runC_ok mB_ok 100000 _ _ _ _ _ e) (by kernel_rfl)
theorem so5 : FnOk Tryz.prog 104 (argP (ub 5)) [] (.tup [stP (ub 5), .p (.int .i64 0)]) [] :=
  FnOk.frzR (x := Vm.runC Tryz.prog mB 100000 104 (argP (ub 5)) []) (fun r hp e => runC_ok mB_ok 100000 _ _ _ _ _ e) (by kernel_rfl)
theorem so6 : FnOk Tryz.prog 104 (argP (ub 6)) [] (.tup [stP (ub 6), .p (.int .i64 0)]) [] :=
  FnOk.frzR (x := Vm.runC Tryz.prog mB 100000 104 (argP (ub 6)) []) (fun r hp e => runC_ok mB_ok 100000 _ _ _ _ _ e) (by kernel_rfl)
theorem so7 : FnOk Tryz.prog 104 (argP (ub 7)) [] (.tup [stP (ub 7), .p (.int .i64 0)]) [] :=
  FnOk.frzR (x := Vm.runC Tryz.prog mB 100000 104 (argP (ub 7)) []) (fun r hp e => runC_ok mB_ok 100000 _ _ _ _ _ e) (by kernel_rfl)
theorem so8 : FnOk Tryz.prog 104 (argP (ub 8)) [] (.tup [stP (ub 8), .p (.int .i64 0)]) [] :=
  FnOk.frzR (x := Vm.runC Tryz.prog mB 100000 104 (argP (ub 8)) []) (fun r hp e => runC_ok mB_ok 100000 _ _ _ _ _ e) (by kernel_rfl)
theorem so9 : FnOk Tryz.prog 104 (argP (ub 9)) [] (.tup [stP (ub 9), .p (.int .i64 0)]) [] :=
  FnOk.frzR (x := Vm.runC Tryz.prog mB 100000 104 (argP (ub 9)) []) (fun r hp e => runC_ok mB_ok 100000 _ _ _ _ _ e) (by kernel_rfl)
theorem so10 : FnOk Tryz.prog 104 (argP (ub 10)) [] (.tup [stP (ub 10), .p (.int .i64 0)]) [] :=
  FnOk.frzR (x := Vm.runC Tryz.prog mB 100000 104 (argP (ub 10)) []) (fun r hp e => runC_ok mB_ok 100000 _ _ _ _ _ e) (by kernel_rfl)
theorem so11 : FnOk Tryz.prog 104 (argP (ub 11)) [] (.tup [stP (ub 11), .p (.int .i64 0)]) [] :=
  FnOk.frzR (x := Vm.runC Tryz.prog mB 100000 104 (argP (ub 11)) []) (fun r hp e => runC_ok mB_ok 100000 _ _ _ _ _ e) (by kernel_rfl)
theorem so12 : FnOk Tryz.prog 104 (argP (ub 12)) [] (.tup [stP (ub 12), .p (.int .i64 0)]) [] :=
  FnOk.frzR (x := Vm.runC Tryz.prog mB 100000 104 (argP (ub 12)) []) (fun r hp e => runC_ok mB_ok 100000 _ _ _ _ _ e) (by kernel_rfl)
theorem so13 : FnOk Tryz.prog 104 (argP (ub 13)) [] (.tup [stP (ub 13), .p (.int .i64 0)]) [] :=
  FnOk.frzR (x := Vm.runC Tryz.prog mB 100000 104 (argP (ub 13)) []) (fun r hp e => runC_ok mB_ok 100000 _ _ _ _ _ e) (by kernel_rfl)
theorem so14 : FnOk Tryz.prog 104 (argP (ub 14)) [] (.tup [stP (ub 14), .p (.int .i64 0)]) [] :=
  FnOk.frzR (x := Vm.runC Tryz.prog mB 100000 104 (argP (ub 14)) []) (fun r hp e => runC_ok mB_ok 100000 _ _ _ _ _ e) (by kernel_rfl)
theorem so15 : FnOk Tryz.prog 104 (argP (ub 15)) [] (.tup [stP (ub 15), .p (.int .i64 0)]) [] :=
  FnOk.frzR (x := Vm.runC Tryz.prog mB 100000 104 (argP (ub 15)) []) (fun r hp e => runC_ok mB_ok 100000 _ _ _ _ _ e) (by kernel_rfl)
theorem so16 : FnOk Tryz.prog 104 (argP (ub 16)) [] (.tup [stP (ub 16), .p (.int .i64 0)]) [] :=
  FnOk.frzR (x := Vm.runC Tryz.prog mB 100000 104 (argP (ub 16)) []) (fun r hp e => runC_ok mB_ok 100000 _ _ _ _ _ e) (by kernel_rfl)
theorem so_all : ∀ i, i < 17 → FnOk Tryz.prog 104 (argP (ub i)) [] (.tup [stP (ub i), .p (.int .i64 0)]) []
  | 0, _ => so0
  | 1, _ => so1
  | 2, _ => so2
  | 3, _ => so3
  | 4, _ => so4
  | 5, _ => so5
  | 6, _ => so6
  | 7, _ => so7
  | 8, _ => so8
  | 9, _ => so9
  | 10, _ => so10
  | 11, _ => so11
  | 12, _ => so12
  | 13, _ => so13
  | 14, _ => so14
  | 15, _ => so15
  | 16, _ => so16
  | k + 17, h => absurd h (by omega)
theorem sc0 : FnOk Tryz.prog 259 ([stP (ub 0)]) [] (.p (.int .i64 0)) [] :=
  FnOk.frzR (x := Vm.runC Tryz.prog mB 100000 259 ([stP (ub 0)]) []) (fun r hp e => runC_ok mB_ok 100000 _ _ _ _ _ e) (by kernel_rfl)
theorem sc1 : FnOk Tryz.prog 259 ([stP (ub 1)]) [] (.p (.int .i64 0)) [] :=
  FnOk.frzR (x := Vm.runC Tryz.prog mB 100000 259 ([stP (ub 1)]) []) (fun r hp e => runC_ok mB_ok 100000 _ _ _ _ _ e) (by kernel_rfl)
theorem sc2 : FnOk Tryz.prog 259 ([stP (ub 2)]) [] (.p (.int .i64 0)) [] :=
  FnOk.frzR (x := Vm.runC Tryz.prog mB 100000 259 ([stP (ub 2)]) []) (fun r hp e => runC_ok mB_ok 100000 _ _ _ _ _ e) (by kernel_rfl)
theorem sc3 : FnOk Tryz.prog 259 ([stP (ub 3)]) [] (.p (.int .i64 0)) [] :=
  FnOk.frzR (x := Vm.runC Tryz.prog mB 100000 259 ([stP (ub 3)]) []) (fun r hp e => runC_ok mB_ok 100000 _ _ _ _ _ e) (by kernel_rfl)
theorem sc4 : FnOk Tryz.prog 259 ([stP (ub 4)]) [] (.p (.int .i64 0)) [] :=
  FnOk.frzR (x := Vm.runC Tryz.prog mB 100000 259 ([stP (ub 4)]) []) (fun r hp e => runC_ok mB_ok 100000 _ _ _ _ _ e) (by kernel_rfl)
theorem sc5 : FnOk Tryz.prog 259 ([stP (ub 5)]) [] (.p (.int .i64 0)) [] :=
  FnOk.frzR (x := Vm.runC Tryz.prog mB 100000 259 ([stP (ub 5)]) []) (fun r hp e => runC_ok mB_ok 100000 _ _ _ _ _ e) (by kernel_rfl)
theorem sc6 : FnOk Tryz.prog 259 ([stP (ub 6)]) [] (.p (.int .i64 0)) [] :=
  FnOk.frzR (x := Vm.runC Tryz.prog mB 100000 259 ([stP (ub 6)]) []) (fun r hp e => runC_ok mB_ok 100000 _ _ _ _ _ e) (by kernel_rfl)
theorem sc7 : FnOk Tryz.prog 259 ([stP (ub 7)]) [] (.p (.int .i64 0)) [] :=
  FnOk.frzR (x := Vm.runC Tryz.prog mB 100000 259 ([stP (ub 7)]) []) (fun r hp e => runC_ok mB_ok 100000 _ _ _ _ _ e) (by kernel_rfl)
theorem sc8 : FnOk Tryz.prog 259 ([stP (ub 8)]) [] (.p (.int .i64 0)) [] :=
  FnOk.frzR (x := Vm.runC Tryz.prog mB 100000 259 ([stP (ub 8)]) []) (fun r hp e => runC_ok mB_ok 100000 _ _ _ _ _ e) (by kernel_rfl)
theorem sc9 : FnOk Tryz.prog 259 ([stP (ub 9)]) [] (.p (.int .i64 0)) [] :=
  FnOk.frzR (x := Vm.runC Tryz.prog mB 100000 259 ([stP (ub 9)]) []) (fun r hp e => runC_ok mB_ok 100000 _ _ _ _ _ e) (by kernel_rfl)
theorem sc10 : FnOk Tryz.prog 259 ([stP (ub 10)]) [] (.p (.int .i64 0)) [] :=
  FnOk.frzR (x := Vm.runC Tryz.prog mB 100000 259 ([stP (ub 10)]) []) (fun r hp e => runC_ok mB_ok 100000 _ _ _ _ _ e) (by kernel_rfl)
theorem sc11 : FnOk Tryz.prog 259 ([stP (ub 11)]) [] (.p (.int .i64 0)) [] :=
  FnOk.frzR (x := Vm.runC Tryz.prog mB 100000 259 ([stP (ub 11)]) []) (fun r hp e => runC_ok mB_ok 100000 _ _ _ _ _ e) (by kernel_rfl)
theorem sc12 : FnOk Tryz.prog 259 ([stP (ub 12)]) [] (.p (.int .i64 0)) [] :=
  FnOk.frzR (x := Vm.runC Tryz.prog mB 100000 259 ([stP (ub 12)]) []) (fun r hp e => runC_ok mB_ok 100000 _ _ _ _ _ e) (by kernel_rfl)
theorem sc13 : FnOk Tryz.prog 259 ([stP (ub 13)]) [] (.p (.int .i64 0)) [] :=
  FnOk.frzR (x := Vm.runC Tryz.prog mB 100000 259 ([stP (ub 13)]) []) (fun r hp e => runC_ok mB_ok 100000 _ _ _ _ _ e) (by kernel_rfl)
theorem sc14 : FnOk Tryz.prog 259 ([stP (ub 14)]) [] (.p (.int .i64 0)) [] :=
  FnOk.frzR (x := Vm.runC Tryz.prog mB 100000 259 ([stP (ub 14)]) []) (fun r hp e => runC_ok mB_ok 100000 _ _ _ _ _ e) (by kernel_rfl)
theorem sc15 : FnOk Tryz.prog 259 ([stP (ub 15)]) [] (.p (.int .i64 0)) [] :=
  FnOk.frzR (x := Vm.runC Tryz.prog mB 100000 259 ([stP (ub 15)]) []) (fun r hp e => runC_ok mB_ok 100000 _ _ _ _ _ e) (by kernel_rfl)
theorem sc16 : FnOk Tryz.prog 259 ([stP (ub 16)]) [] (.p (.int .i64 0)) [] :=
  FnOk.frzR (x := Vm.runC Tryz.prog mB 100000 259 ([stP (ub 16)]) []) (fun r hp e => runC_ok mB_ok 100000 _ _ _ _ _ e) (by kernel_rfl)
theorem sc_all : ∀ i, i < 17 → FnOk Tryz.prog 259 ([stP (ub i)]) [] (.p (.int .i64 0)) []
  | 0, _ => sc0
  | 1, _ => sc1
  | 2, _ => sc2
  | 3, _ => sc3
  | 4, _ => sc4
  | 5, _ => sc5
  | 6, _ => sc6
  | 7, _ => sc7
  | 8, _ => sc8
  | 9, _ => sc9
  | 10, _ => sc10
  | 11, _ => sc11
  | 12, _ => sc12
  | 13, _ => sc13
  | 14, _ => sc14
  | 15, _ => sc15
  | 16, _ => sc16
  | k + 17, h => absurd h (by omega)
end Be
end Go.Proofs.YtlemialjfnbchaaGreat

namespace Go.Proofs.YtlemialjfnbchaaGreat
open Go Go.Vm
set_option maxRecDepth 100000
namespace Be
theorem n_irr (n : Int) : (AV.p (.bool (decide (n < n)))) = .p (.bool false) := by simp
theorem n_neq1 (n : Int) : (AV.p (.bool (!(n == n)))) = .p (.bool false) := by simp
theorem n_eql1 (n : Int) : (AV.p (.bool (n == n))) = .p (.bool true) := by simp
noncomputable def mVr : Vm.Mode := ⟨byMask 57896044618658920464162232821980448298161205217810393175413208097707989663744, fun f => cond (Nat.beq f 255) (some bitsV) (cond (byMask 63657404615580467936834520382774474003547107016876825307453947165866304351799490828566528 f) (some fun args hp => Vm.runC Tryz.prog mB 100000 f args hp) none)⟩
theorem okVr (f : FuncId) (K : List AV → List Blk → Option (AV × List Blk)) (h : mVr.ov f = some K) (args : List AV) (hp : List Blk) (r : AV) (hp' : List Blk) (k : K args hp = some (r, hp')) : FnOk Tryz.prog f args hp r hp' := by
  rcases ov_cond h with ⟨rfl, rfl⟩ | h
  · exact Ln.len_con k
  cases hm : byMask 63657404615580467936834520382774474003547107016876825307453947165866304351799490828566528 f with
  | false => rw [hm] at h; cases h
  | true =>
    rw [hm] at h
    cases h
    exact runC_ok mB_ok 100000 _ _ _ _ _ k
abbrev stN (n : Int) : AV := .agg ([.p (.int .i64 1), .p (.int .i64 1), .p (.int .i64 0)] ++ vN n ++ vN n ++ [.p (.complex .f64 0 0), .p (.complex .f64 0 0)])
theorem vc_np (n : Int) : runS Tryz.prog mVr 100000 221 ([.agg (vN n)]) [] ([(13, bF)], []) = some (.p (.int .i64 0), [], ([], [(.p (.bool (!(true && ((n == n) && true)))), bF)])) := by kernel_rfl
theorem vc_n (n : Int) : FnOk Tryz.prog 221 ([.agg (vN n)]) [] (.p (.int .i64 0)) [] := by
  refine FnOk.frzR (x := some (.p (.int .i64 0), [])) (fun r hp e => ?_) rfl
  cases e
  exact runV_ok (M := mVr) okVr 100000 _ _ _ _ _ (runS_run (vc_np n) (hold_eq (n_self n) hold_nil))
theorem so_np (n : Int) : runS Tryz.prog mVr 100000 104 (arg n) [] ([(36, bF)], []) = some (.tup [stN n, .p (.int .i64 0)], [], ([], [(.p (.bool (!(true && ((n == n) && true)))), bF)])) := by kernel_rfl
theorem so_n (n : Int) : FnOk Tryz.prog 104 (arg n) [] (.tup [stN n, .p (.int .i64 0)]) [] := by
  refine FnOk.frzR (x := some (.tup [stN n, .p (.int .i64 0)], [])) (fun r hp e => ?_) rfl
  cases e
  exact runV_ok (M := mVr) okVr 100000 _ _ _ _ _ (runS_run (so_np n) (hold_eq (n_self n) hold_nil))
theorem sc_np (n : Int) : runS Tryz.prog mVr 100000 259 ([stN n]) [] ([(92, bF), (31, bF), (53, bF), (7, bF), (7, bF), (2, bF)], []) = some (.p (.int .i64 0), [], ([], [(.p (.bool (decide (n < n))), bF), (.p (.bool (decide (n < n))), bF), (.p (.bool (!(n == n))), bF), (.p (.bool (!(n == n))), bF), (.p (.bool (!(true && ((n == n) && true)))), bF), (.p (.bool (!(true && ((n == n) && true)))), bF)])) := by kernel_rfl
theorem sc_n (n : Int) : FnOk Tryz.prog 259 ([stN n]) [] (.p (.int .i64 0)) [] := by
  refine FnOk.frzR (x := some (.p (.int .i64 0), [])) (fun r hp e => ?_) rfl
  cases e
  exact runV_ok (M := mVr) okVr 100000 _ _ _ _ _ (runS_run (sc_np n) (hold_eq (n_irr n) (hold_eq (n_irr n) (hold_eq (n_neq1 n) (hold_eq (n_neq1 n) (hold_eq (n_self n) (hold_eq (n_self n) hold_nil)))))))
/-! ### the contracts -/
def RB (args : List AV) (r : AV) : Prop := (∃ n, in64 n ∧ args = arg n ∧ r = bestR (zigN n)) ∨ (∃ i, i < 17 ∧ args = argP (ub i) ∧ r = resP (yb i))
def RV (args : List AV) (r : AV) : Prop := ∃ i, i < 17 ∧ args = [.agg (vP (ub i))] ∧ r = .p (.int .i64 0)
def RO (args : List AV) (r : AV) : Prop := ∃ i, i < 17 ∧ args = argP (ub i) ∧ r = .tup [stP (ub i), .p (.int .i64 0)]
def RK (args : List AV) (r : AV) : Prop := ∃ i, i < 17 ∧ args = [stP (ub i)] ∧ r = .p (.int .i64 0)
theorem RB_ok (args : List AV) (r : AV) (h : RB args r) : FnOk Tryz.prog 205 args [] r [] := by
  rcases h with ⟨_, h, rfl, rfl⟩ | ⟨i, h, rfl, rfl⟩
  · exact best_n h
  · exact bp_all i h
theorem RV_ok (args : List AV) (r : AV) (h : RV args r) : FnOk Tryz.prog 221 args [] r [] := by
  obtain ⟨i, h, rfl, rfl⟩ := h
  exact vc_all i h
theorem RO_ok (args : List AV) (r : AV) (h : RO args r) : FnOk Tryz.prog 104 args [] r [] := by
  obtain ⟨i, h, rfl, rfl⟩ := h
  exact so_all i h
theorem RK_ok (args : List AV) (r : AV) (h : RK args r) : FnOk Tryz.prog 259 args [] r [] := by
  obtain ⟨i, h, rfl, rfl⟩ := h
  exact sc_all i h
def gK : List AV → Int
  | (.lst _ (.p (.int _ k) :: _)) :: _ => k
  | _ => 0
def gN : List AV → Int
  | (.lst _ (_ :: .p (.int _ n) :: _)) :: _ => n
  | _ => 0
def gU : List AV → Nat
  | (.lst _ (_ :: _ :: _ :: .p (.complex _ u _) :: _)) :: _ => u
  | _ => 0
theorem ub_inj : ∀ i, i < 17 → ∀ j, j < 17 → ub i = ub j → i = j := by decide
theorem b_n {n : Int} (hn : in64 n) : outF (relF RB (arg n) []) = bestR (zigN n) := by
  refine relF_eq (.inl ⟨n, hn, rfl, rfl⟩) ?_
  rintro r (⟨m, _, h, rfl⟩ | ⟨i, _, h, rfl⟩)
  · have : n = m := congrArg gN h
    rw [this]
  · have : (1 : Int) = 3 := congrArg gK h
    omega
theorem b_p {i u y : Nat} (hi : i < 17) (hu : u = ub i) (hy : y = yb i) : outF (relF RB (argP u) []) = resP y := by
  subst hu; subst hy
  refine relF_eq (.inr ⟨i, hi, rfl, rfl⟩) ?_
  rintro r (⟨m, _, h, rfl⟩ | ⟨j, hj, h, rfl⟩)
  · have : (3 : Int) = 1 := congrArg gK h
    omega
  · have : ub i = ub j := congrArg gU h
    rw [ub_inj i hi j hj this]
theorem v_p {i u : Nat} (hi : i < 17) (hu : u = ub i) : outF (relF RV [.agg (vP u)] []) = .p (.int .i64 0) := by
  subst hu
  refine relF_eq ⟨i, hi, rfl, rfl⟩ ?_
  rintro r ⟨j, _, _, rfl⟩
  rfl
theorem o_p {i u : Nat} (hi : i < 17) (hu : u = ub i) : outF (relF RO (argP u) []) = .tup [stP u, .p (.int .i64 0)] := by
  subst hu
  refine relF_eq ⟨i, hi, rfl, rfl⟩ ?_
  rintro r ⟨j, _, h, rfl⟩
  have : ub i = ub j := congrArg gU h
  rw [this]
theorem k_p {i u : Nat} (hi : i < 17) (hu : u = ub i) : outF (relF RK [stP u] []) = .p (.int .i64 0) := by
  subst hu
  refine relF_eq ⟨i, hi, rfl, rfl⟩ ?_
  rintro r ⟨j, _, _, rfl⟩
  rfl
/-! ### the four contracts: a closed row of a string is run at once -/
def RV1 (args : List AV) (r : AV) : Prop := ∃ n, args = [.agg (vN n)] ∧ r = .p (.int .i64 0)
def RO1 (args : List AV) (r : AV) : Prop := ∃ n, args = arg n ∧ r = .tup [stN n, .p (.int .i64 0)]
def RK1 (args : List AV) (r : AV) : Prop := ∃ n, args = [stN n] ∧ r = .p (.int .i64 0)
theorem RV1_ok (args : List AV) (r : AV) (h : RV1 args r) : FnOk Tryz.prog 221 args [] r [] := by
  obtain ⟨n, rfl, rfl⟩ := h
  exact vc_n n
theorem RO1_ok (args : List AV) (r : AV) (h : RO1 args r) : FnOk Tryz.prog 104 args [] r [] := by
  obtain ⟨n, rfl, rfl⟩ := h
  exact so_n n
theorem RK1_ok (args : List AV) (r : AV) (h : RK1 args r) : FnOk Tryz.prog 259 args [] r [] := by
  obtain ⟨n, rfl, rfl⟩ := h
  exact sc_n n
theorem v_n (n : Int) : outF (relF RV1 [.agg (vN n)] []) = .p (.int .i64 0) := by
  refine relF_eq ⟨n, rfl, rfl⟩ ?_
  rintro r ⟨m, _, rfl⟩
  rfl
theorem o_n (n : Int) : outF (relF RO1 (arg n) []) = .tup [stN n, .p (.int .i64 0)] := by
  refine relF_eq ⟨n, rfl, rfl⟩ ?_
  rintro r ⟨m, h, rfl⟩
  have : n = m := congrArg gN h
  rw [this]
theorem k_n (n : Int) : outF (relF RK1 [stN n] []) = .p (.int .i64 0) := by
  refine relF_eq ⟨n, rfl, rfl⟩ ?_
  rintro r ⟨m, _, rfl⟩
  rfl
def kA : List AV → Nat
  | (.lst _ (.p (.int _ k) :: _)) :: _ => k.toNat
  | (.agg (.p (.int _ k) :: _)) :: _ => k.toNat
  | _ => 0
noncomputable def fB (args : List AV) (hp : List Blk) : Option (AV × List Blk) := cond (Nat.beq (kA args) 2) (match hp with | [] => Vm.frzR (Vm.runC Tryz.prog mB 100000 205 args []) | _ => none) (relF RB args hp)
noncomputable def fV (args : List AV) (hp : List Blk) : Option (AV × List Blk) := cond (Nat.beq (kA args) 2) (Vm.runC Tryz.prog mB 100000 221 args hp) (cond (Nat.beq (kA args) 1) (relF RV1 args hp) (relF RV args hp))
noncomputable def fO (args : List AV) (hp : List Blk) : Option (AV × List Blk) := cond (Nat.beq (kA args) 2) (Vm.runC Tryz.prog mB 100000 104 args hp) (cond (Nat.beq (kA args) 1) (relF RO1 args hp) (relF RO args hp))
noncomputable def fK (args : List AV) (hp : List Blk) : Option (AV × List Blk) := cond (Nat.beq (kA args) 2) (Vm.runC Tryz.prog mB 100000 259 args hp) (cond (Nat.beq (kA args) 1) (relF RK1 args hp) (relF RK args hp))
theorem fB_con {args : List AV} {hp hp' : List Blk} {r : AV} (h : fB args hp = some (r, hp')) : FnOk Tryz.prog 205 args hp r hp' := by
  unfold fB at h
  cases h2 : Nat.beq (kA args) 2 with
  | true =>
    rw [h2, cond_true] at h
    cases hp with
    | nil => exact FnOk.frzR (x := Vm.runC Tryz.prog mB 100000 205 args []) (fun r hp e => runC_ok mB_ok 100000 _ _ _ _ _ e) h
    | cons _ _ => cases h
  | false => rw [h2] at h; exact relF_con RB_ok h
theorem fV_con {args : List AV} {hp hp' : List Blk} {r : AV} (h : fV args hp = some (r, hp')) : FnOk Tryz.prog 221 args hp r hp' := by
  unfold fV at h
  cases h2 : Nat.beq (kA args) 2 with
  | true => rw [h2] at h; exact runC_ok mB_ok 100000 _ _ _ _ _ h
  | false =>
    rw [h2, cond_false] at h
    cases h1 : Nat.beq (kA args) 1 with
    | true => rw [h1] at h; exact relF_con RV1_ok h
    | false => rw [h1] at h; exact relF_con RV_ok h
theorem fO_con {args : List AV} {hp hp' : List Blk} {r : AV} (h : fO args hp = some (r, hp')) : FnOk Tryz.prog 104 args hp r hp' := by
  unfold fO at h
  cases h2 : Nat.beq (kA args) 2 with
  | true => rw [h2] at h; exact runC_ok mB_ok 100000 _ _ _ _ _ h
  | false =>
    rw [h2, cond_false] at h
    cases h1 : Nat.beq (kA args) 1 with
    | true => rw [h1] at h; exact relF_con RO1_ok h
    | false => rw [h1] at h; exact relF_con RO_ok h
theorem fK_con {args : List AV} {hp hp' : List Blk} {r : AV} (h : fK args hp = some (r, hp')) : FnOk Tryz.prog 259 args hp r hp' := by
  unfold fK at h
  cases h2 : Nat.beq (kA args) 2 with
  | true => rw [h2] at h; exact runC_ok mB_ok 100000 _ _ _ _ _ h
  | false =>
    rw [h2, cond_false] at h
    cases h1 : Nat.beq (kA args) 1 with
    | true => rw [h1] at h; exact relF_con RK1_ok h
    | false => rw [h1] at h; exact relF_con RK_ok h
end Be
end Go.Proofs.YtlemialjfnbchaaGreat
