/- pub.New at a row of three: what is taken as told. Made by gnw.py. -/
import Derived.Test.YtlemialjfnbchaaGreatBeD
import Derived.Test.YtlemialjfnbchaaGreatVmTh

namespace Go.Proofs.YtlemialjfnbchaaGreat
open Go Go.Vm
set_option maxRecDepth 100000
namespace Be
noncomputable def mN : Vm.Mode := ⟨byMask 984232758520558528608141359153505905352985491314625238858038923194468958994432, fun f => cond (Nat.beq f 255) (some bitsV) none⟩
theorem mN_ok (f : FuncId) (K : List AV → List Blk → Option (AV × List Blk)) (h : mN.ov f = some K) (args : List AV) (hp : List Blk) (r : AV) (hp' : List Blk) (k : K args hp = some (r, hp')) : FnOk Tryz.prog f args hp r hp' := by
  rcases ov_cond h with ⟨rfl, rfl⟩ | h
  · exact Ln.len_con k
  cases h
noncomputable def mNr : Vm.Mode := ⟨byMask 984232758520558528608141359153505905352985491314625238858038923194468958994432, fun f => cond (Nat.beq f 205) (some fB) (cond (Nat.beq f 221) (some fV) (cond (Nat.beq f 104) (some fO) (cond (Nat.beq f 259) (some fK) (cond (byMask 5789604461865810002577627623728995628224670493675021590605726133580164067491840 f) (some fun args hp => Vm.runC Tryz.prog mN 100000 f args hp) none))))⟩
theorem okNr (f : FuncId) (K : List AV → List Blk → Option (AV × List Blk)) (h : mNr.ov f = some K) (args : List AV) (hp : List Blk) (r : AV) (hp' : List Blk) (k : K args hp = some (r, hp')) : FnOk Tryz.prog f args hp r hp' := by
  rcases ov_cond h with ⟨rfl, rfl⟩ | h
  · exact fB_con k
  rcases ov_cond h with ⟨rfl, rfl⟩ | h
  · exact fV_con k
  rcases ov_cond h with ⟨rfl, rfl⟩ | h
  · exact fO_con k
  rcases ov_cond h with ⟨rfl, rfl⟩ | h
  · exact fK_con k
  cases hm : byMask 5789604461865810002577627623728995628224670493675021590605726133580164067491840 f with
  | false => rw [hm] at h; cases h
  | true =>
    rw [hm] at h
    cases h
    exact runC_ok mN_ok 100000 _ _ _ _ _ k
abbrev argN (n : Int) (u : Nat) : List AV := [.ptr 0 0 0, .agg [.p (.int .u64 1), wZ 2, wZ 1], .agg [.p (.int .u64 1), .ref 2 0 0 3, .p (.slice none 0 0)], .lit 1 [.lst 3 (vN n ++ [wZ 2, wZ 0, .p (.string ⟨#[97]⟩), .p (.complex .f64 0 0)] ++ vP u)]]
/-- what the model reckons of a float as a number -/
noncomputable def cvF (u : Nat) (hp : List Blk) : AV := outAV (match pv Tryz.prog (do let v ← Conv.floatToInt .f64 u .i64; pure (Next.value v)) with
  | some (.value v) => some (.val (abs v) hp)
  | some (.enter f args) => some (.call f (args.toList.map abs1))
  | _ => none)
theorem n_cvF {i u : Nat} {r : Int} (hi : i < 17) (hu : u = ub i) (hr : r = (i : Int) - 8) (hp : List Blk) : cvF u hp = wZ r := by
  subst hu; subst hr
  match i, hi with
  | 0, _ => exact rfl
  | 1, _ => exact rfl
  | 2, _ => exact rfl
  | 3, _ => exact rfl
  | 4, _ => exact rfl
  | 5, _ => exact rfl
  | 6, _ => exact rfl
  | 7, _ => exact rfl
  | 8, _ => exact rfl
  | 9, _ => exact rfl
  | 10, _ => exact rfl
  | 11, _ => exact rfl
  | 12, _ => exact rfl
  | 13, _ => exact rfl
  | 14, _ => exact rfl
  | 15, _ => exact rfl
  | 16, _ => exact rfl
  | k + 17, h => exact absurd h (by omega)
theorem y_r {i y : Nat} {r : Int} (hi : i < 17) (hr : r = (i : Int) - 8) (hy : y = yb i) : y = zigN r := by
  subst hr; subst hy
  match i, hi with
  | 0, _ => exact rfl
  | 1, _ => exact rfl
  | 2, _ => exact rfl
  | 3, _ => exact rfl
  | 4, _ => exact rfl
  | 5, _ => exact rfl
  | 6, _ => exact rfl
  | 7, _ => exact rfl
  | 8, _ => exact rfl
  | 9, _ => exact rfl
  | 10, _ => exact rfl
  | 11, _ => exact rfl
  | 12, _ => exact rfl
  | 13, _ => exact rfl
  | 14, _ => exact rfl
  | 15, _ => exact rfl
  | 16, _ => exact rfl
  | k + 17, h => exact absurd h (by omega)
theorem y_lt {i y : Nat} (hi : i < 17) (hy : y = yb i) : y < 17 := by
  subst hy
  match i, hi with
  | 0, _ => exact (by decide)
  | 1, _ => exact (by decide)
  | 2, _ => exact (by decide)
  | 3, _ => exact (by decide)
  | 4, _ => exact (by decide)
  | 5, _ => exact (by decide)
  | 6, _ => exact (by decide)
  | 7, _ => exact (by decide)
  | 8, _ => exact (by decide)
  | 9, _ => exact (by decide)
  | 10, _ => exact (by decide)
  | 11, _ => exact (by decide)
  | 12, _ => exact (by decide)
  | 13, _ => exact (by decide)
  | 14, _ => exact (by decide)
  | 15, _ => exact (by decide)
  | 16, _ => exact (by decide)
  | k + 17, h => exact absurd h (by omega)
theorem bn1 {n : Int} {z : Nat} (hn : in64 n) (hz : z = zigN n) (h1 : z < 128) : outF (fB (arg n) []) = br1 z := by
  subst hz
  exact (b_n hn).trans (bestR_1 h1)
theorem bn2 {n : Int} {z : Nat} (hn : in64 n) (hz : z = zigN n) (h0 : 128 ≤ z) (h1 : z < 16384) : outF (fB (arg n) []) = br2 z := by
  subst hz
  exact (b_n hn).trans (bestR_2 h0 h1)
theorem bn3 {n : Int} {z : Nat} (hn : in64 n) (hz : z = zigN n) (h0 : 16384 ≤ z) (h1 : z < 2097152) : outF (fB (arg n) []) = br3 z := by
  subst hz
  exact (b_n hn).trans (bestR_3 h0 h1)
theorem bn4 {n : Int} {z : Nat} (hn : in64 n) (hz : z = zigN n) (h0 : 2097152 ≤ z) (h1 : z < 268435456) : outF (fB (arg n) []) = br4 z := by
  subst hz
  exact (b_n hn).trans (bestR_4 h0 h1)
theorem bn5 {n : Int} {z : Nat} (hn : in64 n) (hz : z = zigN n) (h0 : 268435456 ≤ z) (h1 : z < 34359738368) : outF (fB (arg n) []) = br5 z := by
  subst hz
  exact (b_n hn).trans (bestR_5 h0 h1)
theorem bn6 {n : Int} {z : Nat} (hn : in64 n) (hz : z = zigN n) (h0 : 34359738368 ≤ z) (h1 : z < 4398046511104) : outF (fB (arg n) []) = br6 z := by
  subst hz
  exact (b_n hn).trans (bestR_6 h0 h1)
theorem bn7 {n : Int} {z : Nat} (hn : in64 n) (hz : z = zigN n) (h0 : 4398046511104 ≤ z) (h1 : z < 562949953421312) : outF (fB (arg n) []) = br7 z := by
  subst hz
  exact (b_n hn).trans (bestR_7 h0 h1)
theorem bn8 {n : Int} {z : Nat} (hn : in64 n) (hz : z = zigN n) (h0 : 562949953421312 ≤ z) (h1 : z < 72057594037927936) : outF (fB (arg n) []) = br8 z := by
  subst hz
  exact (b_n hn).trans (bestR_8 h0 h1)
theorem bn9 {n : Int} {z : Nat} (hn : in64 n) (hz : z = zigN n) (h0 : 72057594037927936 ≤ z) (h1 : z < 9223372036854775808) : outF (fB (arg n) []) = br9 z := by
  subst hz
  exact (b_n hn).trans (bestR_9 h0 h1)
theorem bn10 {n : Int} {z : Nat} (hn : in64 n) (hz : z = zigN n) (h0 : 9223372036854775808 ≤ z) : outF (fB (arg n) []) = br10 z := by
  subst hz
  exact (b_n hn).trans (bestR_10 h0)
end Be
end Go.Proofs.YtlemialjfnbchaaGreat

namespace Go.Proofs.YtlemialjfnbchaaGreat
open Go Go.Vm
set_option maxRecDepth 100000
namespace Be
abbrev pg1 (z : Nat) : AV := .lst 4 (u8A [1, 1, 1, z])
abbrev pg2 (z : Nat) : AV := .lst 5 (u8A [1, 1, 1, z % 128 + 128, z / 128])
abbrev pg3 (z : Nat) : AV := .lst 6 (u8A [1, 1, 1, z % 128 + 128, z / 128 % 128 + 128, z / 16384])
abbrev pg4 (z : Nat) : AV := .lst 7 (u8A [1, 1, 1, z % 128 + 128, z / 128 % 128 + 128, z / 16384 % 128 + 128, z / 2097152])
abbrev pg5 (z : Nat) : AV := .lst 8 (u8A [1, 1, 1, z % 128 + 128, z / 128 % 128 + 128, z / 16384 % 128 + 128, z / 2097152 % 128 + 128, z / 268435456])
abbrev pg6 (z : Nat) : AV := .lst 9 (u8A [1, 1, 1, z % 128 + 128, z / 128 % 128 + 128, z / 16384 % 128 + 128, z / 2097152 % 128 + 128, z / 268435456 % 128 + 128, z / 34359738368])
abbrev pg7 (z : Nat) : AV := .lst 10 (u8A [1, 1, 1, z % 128 + 128, z / 128 % 128 + 128, z / 16384 % 128 + 128, z / 2097152 % 128 + 128, z / 268435456 % 128 + 128, z / 34359738368 % 128 + 128, z / 4398046511104])
abbrev pg8 (z : Nat) : AV := .lst 11 (u8A [1, 1, 1, z % 128 + 128, z / 128 % 128 + 128, z / 16384 % 128 + 128, z / 2097152 % 128 + 128, z / 268435456 % 128 + 128, z / 34359738368 % 128 + 128, z / 4398046511104 % 128 + 128, z / 562949953421312])
abbrev pg9 (z : Nat) : AV := .lst 12 (u8A [1, 1, 1, z % 128 + 128, z / 128 % 128 + 128, z / 16384 % 128 + 128, z / 2097152 % 128 + 128, z / 268435456 % 128 + 128, z / 34359738368 % 128 + 128, z / 4398046511104 % 128 + 128, z / 562949953421312 % 128 + 128, z / 72057594037927936])
abbrev pg10 (z : Nat) : AV := .lst 12 (u8A [3, 1, 1, 64, z % 256, z / 256 % 256, z / 65536 % 256, z / 16777216 % 256, z / 4294967296 % 256, z / 1099511627776 % 256, z / 281474976710656 % 256, z / 72057594037927936 % 256])
def pgN (z : Nat) : AV :=
  if z < 128 then pg1 z else
  if z < 16384 then pg2 z else
  if z < 2097152 then pg3 z else
  if z < 268435456 then pg4 z else
  if z < 34359738368 then pg5 z else
  if z < 4398046511104 then pg6 z else
  if z < 562949953421312 then pg7 z else
  if z < 72057594037927936 then pg8 z else
  if z < 9223372036854775808 then pg9 z else
  pg10 z
theorem pgN_1 {z : Nat} (h1 : z < 128) : pgN z = pg1 z := by
  unfold pgN
  rw [if_pos h1]
theorem pgN_2 {z : Nat} (h0 : 128 ≤ z) (h1 : z < 16384) : pgN z = pg2 z := by
  unfold pgN
  rw [if_neg (show ¬ z < 128 by omega)]
  rw [if_pos h1]
theorem pgN_3 {z : Nat} (h0 : 16384 ≤ z) (h1 : z < 2097152) : pgN z = pg3 z := by
  unfold pgN
  rw [if_neg (show ¬ z < 128 by omega)]
  rw [if_neg (show ¬ z < 16384 by omega)]
  rw [if_pos h1]
theorem pgN_4 {z : Nat} (h0 : 2097152 ≤ z) (h1 : z < 268435456) : pgN z = pg4 z := by
  unfold pgN
  rw [if_neg (show ¬ z < 128 by omega)]
  rw [if_neg (show ¬ z < 16384 by omega)]
  rw [if_neg (show ¬ z < 2097152 by omega)]
  rw [if_pos h1]
theorem pgN_5 {z : Nat} (h0 : 268435456 ≤ z) (h1 : z < 34359738368) : pgN z = pg5 z := by
  unfold pgN
  rw [if_neg (show ¬ z < 128 by omega)]
  rw [if_neg (show ¬ z < 16384 by omega)]
  rw [if_neg (show ¬ z < 2097152 by omega)]
  rw [if_neg (show ¬ z < 268435456 by omega)]
  rw [if_pos h1]
theorem pgN_6 {z : Nat} (h0 : 34359738368 ≤ z) (h1 : z < 4398046511104) : pgN z = pg6 z := by
  unfold pgN
  rw [if_neg (show ¬ z < 128 by omega)]
  rw [if_neg (show ¬ z < 16384 by omega)]
  rw [if_neg (show ¬ z < 2097152 by omega)]
  rw [if_neg (show ¬ z < 268435456 by omega)]
  rw [if_neg (show ¬ z < 34359738368 by omega)]
  rw [if_pos h1]
theorem pgN_7 {z : Nat} (h0 : 4398046511104 ≤ z) (h1 : z < 562949953421312) : pgN z = pg7 z := by
  unfold pgN
  rw [if_neg (show ¬ z < 128 by omega)]
  rw [if_neg (show ¬ z < 16384 by omega)]
  rw [if_neg (show ¬ z < 2097152 by omega)]
  rw [if_neg (show ¬ z < 268435456 by omega)]
  rw [if_neg (show ¬ z < 34359738368 by omega)]
  rw [if_neg (show ¬ z < 4398046511104 by omega)]
  rw [if_pos h1]
theorem pgN_8 {z : Nat} (h0 : 562949953421312 ≤ z) (h1 : z < 72057594037927936) : pgN z = pg8 z := by
  unfold pgN
  rw [if_neg (show ¬ z < 128 by omega)]
  rw [if_neg (show ¬ z < 16384 by omega)]
  rw [if_neg (show ¬ z < 2097152 by omega)]
  rw [if_neg (show ¬ z < 268435456 by omega)]
  rw [if_neg (show ¬ z < 34359738368 by omega)]
  rw [if_neg (show ¬ z < 4398046511104 by omega)]
  rw [if_neg (show ¬ z < 562949953421312 by omega)]
  rw [if_pos h1]
theorem pgN_9 {z : Nat} (h0 : 72057594037927936 ≤ z) (h1 : z < 9223372036854775808) : pgN z = pg9 z := by
  unfold pgN
  rw [if_neg (show ¬ z < 128 by omega)]
  rw [if_neg (show ¬ z < 16384 by omega)]
  rw [if_neg (show ¬ z < 2097152 by omega)]
  rw [if_neg (show ¬ z < 268435456 by omega)]
  rw [if_neg (show ¬ z < 34359738368 by omega)]
  rw [if_neg (show ¬ z < 4398046511104 by omega)]
  rw [if_neg (show ¬ z < 562949953421312 by omega)]
  rw [if_neg (show ¬ z < 72057594037927936 by omega)]
  rw [if_pos h1]
theorem pgN_10 {z : Nat} (h0 : 9223372036854775808 ≤ z) : pgN z = pg10 z := by
  unfold pgN
  rw [if_neg (show ¬ z < 128 by omega)]
  rw [if_neg (show ¬ z < 16384 by omega)]
  rw [if_neg (show ¬ z < 2097152 by omega)]
  rw [if_neg (show ¬ z < 268435456 by omega)]
  rw [if_neg (show ¬ z < 34359738368 by omega)]
  rw [if_neg (show ¬ z < 4398046511104 by omega)]
  rw [if_neg (show ¬ z < 562949953421312 by omega)]
  rw [if_neg (show ¬ z < 72057594037927936 by omega)]
  rw [if_neg (show ¬ z < 9223372036854775808 by omega)]
theorem in64_r {i : Nat} {r : Int} (hi : i < 17) (hr : r = (i : Int) - 8) : in64 r := by
  subst hr
  unfold in64
  omega
def gMn : List AV → Int
  | _ :: .lst _ (.lst _ (_ :: .p (.int _ n) :: _) :: _) :: _ => n
  | _ => 0
def gMu : List AV → Nat
  | _ :: .lst _ (.lst _ l :: _) :: _ => (match l.drop 11 with | .p (.complex _ u _) :: _ => u | _ => 0)
  | _ => 0
def gWn : List AV → Int
  | _ :: _ :: _ :: .lit _ (.lst _ (_ :: .p (.int _ n) :: _) :: _) :: _ => n
  | _ => 0
def gWu : List AV → Nat
  | _ :: _ :: _ :: .lit _ (.lst _ l :: _) :: _ => (match l.drop 11 with | .p (.complex _ u _) :: _ => u | _ => 0)
  | _ => 0
theorem hold_app {a b : List (AV × AV)} (ha : Hold a) (hb : Hold b) : Hold (a ++ b) := fun c hc => by
  rcases List.mem_append.1 hc with h | h
  · exact ha c h
  · exact hb c h
def vO3 (z : Nat) : List (Nat × AV) := [(2, V8 (z % 256)), (0, V8 (z % 128 + 128)), (4, V64 (z / 128)), (2, bT), (2, V8 (z / 128 % 256)), (0, V8 (z / 128 % 128 + 128)), (4, V64 (z / 16384)), (2, bF), (2, V8 (z / 16384))]
def vN3 (z : Nat) : List (AV × AV) := [(C8 (z / 16384), V8 (z / 16384)), (geQ (z / 16384) 128, bF), (R64 (z / 128) 7, V64 (z / 16384)), (O8 (z / 128 % 256) 128, V8 (z / 128 % 128 + 128)), (C8 (z / 128), V8 (z / 128 % 256)), (geQ (z / 128) 128, bT), (R64 z 7, V64 (z / 128)), (O8 (z % 256) 128, V8 (z % 128 + 128)), (C8 z, V8 (z % 256))]
theorem vH3 {z : Nat} (h0 : 16384 ≤ z) (h1 : z < 2097152) (_hzl : z < 18446744073709551616) : Hold (vN3 z) := (hold_eq (n_conv_u8 (by omega)) (hold_eq (n_geF (by omega)) (hold_eq (n_shr 128 (by decide) (by omega)) (hold_eq (n_or_u8 (by omega) (by omega)) (hold_eq (n_conv_u8 (by omega)) (hold_eq (n_geT (by omega)) (hold_eq (n_shr 128 (by decide) (by omega)) (hold_eq (n_or_u8 (by omega) (by omega)) (hold_eq (n_conv_u8 (by omega)) hold_nil)))))))))
def vO4 (z : Nat) : List (Nat × AV) := [(2, V8 (z % 256)), (0, V8 (z % 128 + 128)), (4, V64 (z / 128)), (2, bT), (2, V8 (z / 128 % 256)), (0, V8 (z / 128 % 128 + 128)), (4, V64 (z / 16384)), (2, bT), (2, V8 (z / 16384 % 256)), (0, V8 (z / 16384 % 128 + 128)), (4, V64 (z / 2097152)), (2, bF), (2, V8 (z / 2097152))]
def vN4 (z : Nat) : List (AV × AV) := [(C8 (z / 2097152), V8 (z / 2097152)), (geQ (z / 2097152) 128, bF), (R64 (z / 16384) 7, V64 (z / 2097152)), (O8 (z / 16384 % 256) 128, V8 (z / 16384 % 128 + 128)), (C8 (z / 16384), V8 (z / 16384 % 256)), (geQ (z / 16384) 128, bT), (R64 (z / 128) 7, V64 (z / 16384)), (O8 (z / 128 % 256) 128, V8 (z / 128 % 128 + 128)), (C8 (z / 128), V8 (z / 128 % 256)), (geQ (z / 128) 128, bT), (R64 z 7, V64 (z / 128)), (O8 (z % 256) 128, V8 (z % 128 + 128)), (C8 z, V8 (z % 256))]
theorem vH4 {z : Nat} (h0 : 2097152 ≤ z) (h1 : z < 268435456) (_hzl : z < 18446744073709551616) : Hold (vN4 z) := (hold_eq (n_conv_u8 (by omega)) (hold_eq (n_geF (by omega)) (hold_eq (n_shr 128 (by decide) (by omega)) (hold_eq (n_or_u8 (by omega) (by omega)) (hold_eq (n_conv_u8 (by omega)) (hold_eq (n_geT (by omega)) (hold_eq (n_shr 128 (by decide) (by omega)) (hold_eq (n_or_u8 (by omega) (by omega)) (hold_eq (n_conv_u8 (by omega)) (hold_eq (n_geT (by omega)) (hold_eq (n_shr 128 (by decide) (by omega)) (hold_eq (n_or_u8 (by omega) (by omega)) (hold_eq (n_conv_u8 (by omega)) hold_nil)))))))))))))
def vO5 (z : Nat) : List (Nat × AV) := [(2, V8 (z % 256)), (0, V8 (z % 128 + 128)), (4, V64 (z / 128)), (2, bT), (2, V8 (z / 128 % 256)), (0, V8 (z / 128 % 128 + 128)), (4, V64 (z / 16384)), (2, bT), (2, V8 (z / 16384 % 256)), (0, V8 (z / 16384 % 128 + 128)), (4, V64 (z / 2097152)), (2, bT), (2, V8 (z / 2097152 % 256)), (0, V8 (z / 2097152 % 128 + 128)), (4, V64 (z / 268435456)), (2, bF), (2, V8 (z / 268435456))]
def vN5 (z : Nat) : List (AV × AV) := [(C8 (z / 268435456), V8 (z / 268435456)), (geQ (z / 268435456) 128, bF), (R64 (z / 2097152) 7, V64 (z / 268435456)), (O8 (z / 2097152 % 256) 128, V8 (z / 2097152 % 128 + 128)), (C8 (z / 2097152), V8 (z / 2097152 % 256)), (geQ (z / 2097152) 128, bT), (R64 (z / 16384) 7, V64 (z / 2097152)), (O8 (z / 16384 % 256) 128, V8 (z / 16384 % 128 + 128)), (C8 (z / 16384), V8 (z / 16384 % 256)), (geQ (z / 16384) 128, bT), (R64 (z / 128) 7, V64 (z / 16384)), (O8 (z / 128 % 256) 128, V8 (z / 128 % 128 + 128)), (C8 (z / 128), V8 (z / 128 % 256)), (geQ (z / 128) 128, bT), (R64 z 7, V64 (z / 128)), (O8 (z % 256) 128, V8 (z % 128 + 128)), (C8 z, V8 (z % 256))]
theorem vH5 {z : Nat} (h0 : 268435456 ≤ z) (h1 : z < 34359738368) (_hzl : z < 18446744073709551616) : Hold (vN5 z) := (hold_eq (n_conv_u8 (by omega)) (hold_eq (n_geF (by omega)) (hold_eq (n_shr 128 (by decide) (by omega)) (hold_eq (n_or_u8 (by omega) (by omega)) (hold_eq (n_conv_u8 (by omega)) (hold_eq (n_geT (by omega)) (hold_eq (n_shr 128 (by decide) (by omega)) (hold_eq (n_or_u8 (by omega) (by omega)) (hold_eq (n_conv_u8 (by omega)) (hold_eq (n_geT (by omega)) (hold_eq (n_shr 128 (by decide) (by omega)) (hold_eq (n_or_u8 (by omega) (by omega)) (hold_eq (n_conv_u8 (by omega)) (hold_eq (n_geT (by omega)) (hold_eq (n_shr 128 (by decide) (by omega)) (hold_eq (n_or_u8 (by omega) (by omega)) (hold_eq (n_conv_u8 (by omega)) hold_nil)))))))))))))))))
def vO6 (z : Nat) : List (Nat × AV) := [(2, V8 (z % 256)), (0, V8 (z % 128 + 128)), (4, V64 (z / 128)), (2, bT), (2, V8 (z / 128 % 256)), (0, V8 (z / 128 % 128 + 128)), (4, V64 (z / 16384)), (2, bT), (2, V8 (z / 16384 % 256)), (0, V8 (z / 16384 % 128 + 128)), (4, V64 (z / 2097152)), (2, bT), (2, V8 (z / 2097152 % 256)), (0, V8 (z / 2097152 % 128 + 128)), (4, V64 (z / 268435456)), (2, bT), (2, V8 (z / 268435456 % 256)), (0, V8 (z / 268435456 % 128 + 128)), (4, V64 (z / 34359738368)), (2, bF), (2, V8 (z / 34359738368))]
def vN6 (z : Nat) : List (AV × AV) := [(C8 (z / 34359738368), V8 (z / 34359738368)), (geQ (z / 34359738368) 128, bF), (R64 (z / 268435456) 7, V64 (z / 34359738368)), (O8 (z / 268435456 % 256) 128, V8 (z / 268435456 % 128 + 128)), (C8 (z / 268435456), V8 (z / 268435456 % 256)), (geQ (z / 268435456) 128, bT), (R64 (z / 2097152) 7, V64 (z / 268435456)), (O8 (z / 2097152 % 256) 128, V8 (z / 2097152 % 128 + 128)), (C8 (z / 2097152), V8 (z / 2097152 % 256)), (geQ (z / 2097152) 128, bT), (R64 (z / 16384) 7, V64 (z / 2097152)), (O8 (z / 16384 % 256) 128, V8 (z / 16384 % 128 + 128)), (C8 (z / 16384), V8 (z / 16384 % 256)), (geQ (z / 16384) 128, bT), (R64 (z / 128) 7, V64 (z / 16384)), (O8 (z / 128 % 256) 128, V8 (z / 128 % 128 + 128)), (C8 (z / 128), V8 (z / 128 % 256)), (geQ (z / 128) 128, bT), (R64 z 7, V64 (z / 128)), (O8 (z % 256) 128, V8 (z % 128 + 128)), (C8 z, V8 (z % 256))]
theorem vH6 {z : Nat} (h0 : 34359738368 ≤ z) (h1 : z < 4398046511104) (_hzl : z < 18446744073709551616) : Hold (vN6 z) := (hold_eq (n_conv_u8 (by omega)) (hold_eq (n_geF (by omega)) (hold_eq (n_shr 128 (by decide) (by omega)) (hold_eq (n_or_u8 (by omega) (by omega)) (hold_eq (n_conv_u8 (by omega)) (hold_eq (n_geT (by omega)) (hold_eq (n_shr 128 (by decide) (by omega)) (hold_eq (n_or_u8 (by omega) (by omega)) (hold_eq (n_conv_u8 (by omega)) (hold_eq (n_geT (by omega)) (hold_eq (n_shr 128 (by decide) (by omega)) (hold_eq (n_or_u8 (by omega) (by omega)) (hold_eq (n_conv_u8 (by omega)) (hold_eq (n_geT (by omega)) (hold_eq (n_shr 128 (by decide) (by omega)) (hold_eq (n_or_u8 (by omega) (by omega)) (hold_eq (n_conv_u8 (by omega)) (hold_eq (n_geT (by omega)) (hold_eq (n_shr 128 (by decide) (by omega)) (hold_eq (n_or_u8 (by omega) (by omega)) (hold_eq (n_conv_u8 (by omega)) hold_nil)))))))))))))))))))))
def vO7 (z : Nat) : List (Nat × AV) := [(2, V8 (z % 256)), (0, V8 (z % 128 + 128)), (4, V64 (z / 128)), (2, bT), (2, V8 (z / 128 % 256)), (0, V8 (z / 128 % 128 + 128)), (4, V64 (z / 16384)), (2, bT), (2, V8 (z / 16384 % 256)), (0, V8 (z / 16384 % 128 + 128)), (4, V64 (z / 2097152)), (2, bT), (2, V8 (z / 2097152 % 256)), (0, V8 (z / 2097152 % 128 + 128)), (4, V64 (z / 268435456)), (2, bT), (2, V8 (z / 268435456 % 256)), (0, V8 (z / 268435456 % 128 + 128)), (4, V64 (z / 34359738368)), (2, bT), (2, V8 (z / 34359738368 % 256)), (0, V8 (z / 34359738368 % 128 + 128)), (4, V64 (z / 4398046511104)), (2, bF), (2, V8 (z / 4398046511104))]
def vN7 (z : Nat) : List (AV × AV) := [(C8 (z / 4398046511104), V8 (z / 4398046511104)), (geQ (z / 4398046511104) 128, bF), (R64 (z / 34359738368) 7, V64 (z / 4398046511104)), (O8 (z / 34359738368 % 256) 128, V8 (z / 34359738368 % 128 + 128)), (C8 (z / 34359738368), V8 (z / 34359738368 % 256)), (geQ (z / 34359738368) 128, bT), (R64 (z / 268435456) 7, V64 (z / 34359738368)), (O8 (z / 268435456 % 256) 128, V8 (z / 268435456 % 128 + 128)), (C8 (z / 268435456), V8 (z / 268435456 % 256)), (geQ (z / 268435456) 128, bT), (R64 (z / 2097152) 7, V64 (z / 268435456)), (O8 (z / 2097152 % 256) 128, V8 (z / 2097152 % 128 + 128)), (C8 (z / 2097152), V8 (z / 2097152 % 256)), (geQ (z / 2097152) 128, bT), (R64 (z / 16384) 7, V64 (z / 2097152)), (O8 (z / 16384 % 256) 128, V8 (z / 16384 % 128 + 128)), (C8 (z / 16384), V8 (z / 16384 % 256)), (geQ (z / 16384) 128, bT), (R64 (z / 128) 7, V64 (z / 16384)), (O8 (z / 128 % 256) 128, V8 (z / 128 % 128 + 128)), (C8 (z / 128), V8 (z / 128 % 256)), (geQ (z / 128) 128, bT), (R64 z 7, V64 (z / 128)), (O8 (z % 256) 128, V8 (z % 128 + 128)), (C8 z, V8 (z % 256))]
theorem vH7 {z : Nat} (h0 : 4398046511104 ≤ z) (h1 : z < 562949953421312) (_hzl : z < 18446744073709551616) : Hold (vN7 z) := (hold_eq (n_conv_u8 (by omega)) (hold_eq (n_geF (by omega)) (hold_eq (n_shr 128 (by decide) (by omega)) (hold_eq (n_or_u8 (by omega) (by omega)) (hold_eq (n_conv_u8 (by omega)) (hold_eq (n_geT (by omega)) (hold_eq (n_shr 128 (by decide) (by omega)) (hold_eq (n_or_u8 (by omega) (by omega)) (hold_eq (n_conv_u8 (by omega)) (hold_eq (n_geT (by omega)) (hold_eq (n_shr 128 (by decide) (by omega)) (hold_eq (n_or_u8 (by omega) (by omega)) (hold_eq (n_conv_u8 (by omega)) (hold_eq (n_geT (by omega)) (hold_eq (n_shr 128 (by decide) (by omega)) (hold_eq (n_or_u8 (by omega) (by omega)) (hold_eq (n_conv_u8 (by omega)) (hold_eq (n_geT (by omega)) (hold_eq (n_shr 128 (by decide) (by omega)) (hold_eq (n_or_u8 (by omega) (by omega)) (hold_eq (n_conv_u8 (by omega)) (hold_eq (n_geT (by omega)) (hold_eq (n_shr 128 (by decide) (by omega)) (hold_eq (n_or_u8 (by omega) (by omega)) (hold_eq (n_conv_u8 (by omega)) hold_nil)))))))))))))))))))))))))
def vO8 (z : Nat) : List (Nat × AV) := [(2, V8 (z % 256)), (0, V8 (z % 128 + 128)), (4, V64 (z / 128)), (2, bT), (2, V8 (z / 128 % 256)), (0, V8 (z / 128 % 128 + 128)), (4, V64 (z / 16384)), (2, bT), (2, V8 (z / 16384 % 256)), (0, V8 (z / 16384 % 128 + 128)), (4, V64 (z / 2097152)), (2, bT), (2, V8 (z / 2097152 % 256)), (0, V8 (z / 2097152 % 128 + 128)), (4, V64 (z / 268435456)), (2, bT), (2, V8 (z / 268435456 % 256)), (0, V8 (z / 268435456 % 128 + 128)), (4, V64 (z / 34359738368)), (2, bT), (2, V8 (z / 34359738368 % 256)), (0, V8 (z / 34359738368 % 128 + 128)), (4, V64 (z / 4398046511104)), (2, bT), (2, V8 (z / 4398046511104 % 256)), (0, V8 (z / 4398046511104 % 128 + 128)), (4, V64 (z / 562949953421312)), (2, bF), (2, V8 (z / 562949953421312))]
def vN8 (z : Nat) : List (AV × AV) := [(C8 (z / 562949953421312), V8 (z / 562949953421312)), (geQ (z / 562949953421312) 128, bF), (R64 (z / 4398046511104) 7, V64 (z / 562949953421312)), (O8 (z / 4398046511104 % 256) 128, V8 (z / 4398046511104 % 128 + 128)), (C8 (z / 4398046511104), V8 (z / 4398046511104 % 256)), (geQ (z / 4398046511104) 128, bT), (R64 (z / 34359738368) 7, V64 (z / 4398046511104)), (O8 (z / 34359738368 % 256) 128, V8 (z / 34359738368 % 128 + 128)), (C8 (z / 34359738368), V8 (z / 34359738368 % 256)), (geQ (z / 34359738368) 128, bT), (R64 (z / 268435456) 7, V64 (z / 34359738368)), (O8 (z / 268435456 % 256) 128, V8 (z / 268435456 % 128 + 128)), (C8 (z / 268435456), V8 (z / 268435456 % 256)), (geQ (z / 268435456) 128, bT), (R64 (z / 2097152) 7, V64 (z / 268435456)), (O8 (z / 2097152 % 256) 128, V8 (z / 2097152 % 128 + 128)), (C8 (z / 2097152), V8 (z / 2097152 % 256)), (geQ (z / 2097152) 128, bT), (R64 (z / 16384) 7, V64 (z / 2097152)), (O8 (z / 16384 % 256) 128, V8 (z / 16384 % 128 + 128)), (C8 (z / 16384), V8 (z / 16384 % 256)), (geQ (z / 16384) 128, bT), (R64 (z / 128) 7, V64 (z / 16384)), (O8 (z / 128 % 256) 128, V8 (z / 128 % 128 + 128)), (C8 (z / 128), V8 (z / 128 % 256)), (geQ (z / 128) 128, bT), (R64 z 7, V64 (z / 128)), (O8 (z % 256) 128, V8 (z % 128 + 128)), (C8 z, V8 (z % 256))]
theorem vH8 {z : Nat} (h0 : 562949953421312 ≤ z) (h1 : z < 72057594037927936) (_hzl : z < 18446744073709551616) : Hold (vN8 z) := (hold_eq (n_conv_u8 (by omega)) (hold_eq (n_geF (by omega)) (hold_eq (n_shr 128 (by decide) (by omega)) (hold_eq (n_or_u8 (by omega) (by omega)) (hold_eq (n_conv_u8 (by omega)) (hold_eq (n_geT (by omega)) (hold_eq (n_shr 128 (by decide) (by omega)) (hold_eq (n_or_u8 (by omega) (by omega)) (hold_eq (n_conv_u8 (by omega)) (hold_eq (n_geT (by omega)) (hold_eq (n_shr 128 (by decide) (by omega)) (hold_eq (n_or_u8 (by omega) (by omega)) (hold_eq (n_conv_u8 (by omega)) (hold_eq (n_geT (by omega)) (hold_eq (n_shr 128 (by decide) (by omega)) (hold_eq (n_or_u8 (by omega) (by omega)) (hold_eq (n_conv_u8 (by omega)) (hold_eq (n_geT (by omega)) (hold_eq (n_shr 128 (by decide) (by omega)) (hold_eq (n_or_u8 (by omega) (by omega)) (hold_eq (n_conv_u8 (by omega)) (hold_eq (n_geT (by omega)) (hold_eq (n_shr 128 (by decide) (by omega)) (hold_eq (n_or_u8 (by omega) (by omega)) (hold_eq (n_conv_u8 (by omega)) (hold_eq (n_geT (by omega)) (hold_eq (n_shr 128 (by decide) (by omega)) (hold_eq (n_or_u8 (by omega) (by omega)) (hold_eq (n_conv_u8 (by omega)) hold_nil)))))))))))))))))))))))))))))
def vO9 (z : Nat) : List (Nat × AV) := [(2, V8 (z % 256)), (0, V8 (z % 128 + 128)), (4, V64 (z / 128)), (2, bT), (2, V8 (z / 128 % 256)), (0, V8 (z / 128 % 128 + 128)), (4, V64 (z / 16384)), (2, bT), (2, V8 (z / 16384 % 256)), (0, V8 (z / 16384 % 128 + 128)), (4, V64 (z / 2097152)), (2, bT), (2, V8 (z / 2097152 % 256)), (0, V8 (z / 2097152 % 128 + 128)), (4, V64 (z / 268435456)), (2, bT), (2, V8 (z / 268435456 % 256)), (0, V8 (z / 268435456 % 128 + 128)), (4, V64 (z / 34359738368)), (2, bT), (2, V8 (z / 34359738368 % 256)), (0, V8 (z / 34359738368 % 128 + 128)), (4, V64 (z / 4398046511104)), (2, bT), (2, V8 (z / 4398046511104 % 256)), (0, V8 (z / 4398046511104 % 128 + 128)), (4, V64 (z / 562949953421312)), (2, bT), (2, V8 (z / 562949953421312 % 256)), (0, V8 (z / 562949953421312 % 128 + 128)), (4, V64 (z / 72057594037927936)), (2, bF), (2, V8 (z / 72057594037927936))]
def vN9 (z : Nat) : List (AV × AV) := [(C8 (z / 72057594037927936), V8 (z / 72057594037927936)), (geQ (z / 72057594037927936) 128, bF), (R64 (z / 562949953421312) 7, V64 (z / 72057594037927936)), (O8 (z / 562949953421312 % 256) 128, V8 (z / 562949953421312 % 128 + 128)), (C8 (z / 562949953421312), V8 (z / 562949953421312 % 256)), (geQ (z / 562949953421312) 128, bT), (R64 (z / 4398046511104) 7, V64 (z / 562949953421312)), (O8 (z / 4398046511104 % 256) 128, V8 (z / 4398046511104 % 128 + 128)), (C8 (z / 4398046511104), V8 (z / 4398046511104 % 256)), (geQ (z / 4398046511104) 128, bT), (R64 (z / 34359738368) 7, V64 (z / 4398046511104)), (O8 (z / 34359738368 % 256) 128, V8 (z / 34359738368 % 128 + 128)), (C8 (z / 34359738368), V8 (z / 34359738368 % 256)), (geQ (z / 34359738368) 128, bT), (R64 (z / 268435456) 7, V64 (z / 34359738368)), (O8 (z / 268435456 % 256) 128, V8 (z / 268435456 % 128 + 128)), (C8 (z / 268435456), V8 (z / 268435456 % 256)), (geQ (z / 268435456) 128, bT), (R64 (z / 2097152) 7, V64 (z / 268435456)), (O8 (z / 2097152 % 256) 128, V8 (z / 2097152 % 128 + 128)), (C8 (z / 2097152), V8 (z / 2097152 % 256)), (geQ (z / 2097152) 128, bT), (R64 (z / 16384) 7, V64 (z / 2097152)), (O8 (z / 16384 % 256) 128, V8 (z / 16384 % 128 + 128)), (C8 (z / 16384), V8 (z / 16384 % 256)), (geQ (z / 16384) 128, bT), (R64 (z / 128) 7, V64 (z / 16384)), (O8 (z / 128 % 256) 128, V8 (z / 128 % 128 + 128)), (C8 (z / 128), V8 (z / 128 % 256)), (geQ (z / 128) 128, bT), (R64 z 7, V64 (z / 128)), (O8 (z % 256) 128, V8 (z % 128 + 128)), (C8 z, V8 (z % 256))]
theorem vH9 {z : Nat} (h0 : 72057594037927936 ≤ z) (h1 : z < 9223372036854775808) (_hzl : z < 18446744073709551616) : Hold (vN9 z) := (hold_eq (n_conv_u8 (by omega)) (hold_eq (n_geF (by omega)) (hold_eq (n_shr 128 (by decide) (by omega)) (hold_eq (n_or_u8 (by omega) (by omega)) (hold_eq (n_conv_u8 (by omega)) (hold_eq (n_geT (by omega)) (hold_eq (n_shr 128 (by decide) (by omega)) (hold_eq (n_or_u8 (by omega) (by omega)) (hold_eq (n_conv_u8 (by omega)) (hold_eq (n_geT (by omega)) (hold_eq (n_shr 128 (by decide) (by omega)) (hold_eq (n_or_u8 (by omega) (by omega)) (hold_eq (n_conv_u8 (by omega)) (hold_eq (n_geT (by omega)) (hold_eq (n_shr 128 (by decide) (by omega)) (hold_eq (n_or_u8 (by omega) (by omega)) (hold_eq (n_conv_u8 (by omega)) (hold_eq (n_geT (by omega)) (hold_eq (n_shr 128 (by decide) (by omega)) (hold_eq (n_or_u8 (by omega) (by omega)) (hold_eq (n_conv_u8 (by omega)) (hold_eq (n_geT (by omega)) (hold_eq (n_shr 128 (by decide) (by omega)) (hold_eq (n_or_u8 (by omega) (by omega)) (hold_eq (n_conv_u8 (by omega)) (hold_eq (n_geT (by omega)) (hold_eq (n_shr 128 (by decide) (by omega)) (hold_eq (n_or_u8 (by omega) (by omega)) (hold_eq (n_conv_u8 (by omega)) (hold_eq (n_geT (by omega)) (hold_eq (n_shr 128 (by decide) (by omega)) (hold_eq (n_or_u8 (by omega) (by omega)) (hold_eq (n_conv_u8 (by omega)) hold_nil)))))))))))))))))))))))))))))))))
def vO10 (z : Nat) : List (Nat × AV) := [(2, V8 (z % 256)), (0, V8 (z % 128 + 128)), (4, V64 (z / 128)), (2, bT), (2, V8 (z / 128 % 256)), (0, V8 (z / 128 % 128 + 128)), (4, V64 (z / 16384)), (2, bT), (2, V8 (z / 16384 % 256)), (0, V8 (z / 16384 % 128 + 128)), (4, V64 (z / 2097152)), (2, bT), (2, V8 (z / 2097152 % 256)), (0, V8 (z / 2097152 % 128 + 128)), (4, V64 (z / 268435456)), (2, bT), (2, V8 (z / 268435456 % 256)), (0, V8 (z / 268435456 % 128 + 128)), (4, V64 (z / 34359738368)), (2, bT), (2, V8 (z / 34359738368 % 256)), (0, V8 (z / 34359738368 % 128 + 128)), (4, V64 (z / 4398046511104)), (2, bT), (2, V8 (z / 4398046511104 % 256)), (0, V8 (z / 4398046511104 % 128 + 128)), (4, V64 (z / 562949953421312)), (2, bT), (2, V8 (z / 562949953421312 % 256)), (0, V8 (z / 562949953421312 % 128 + 128)), (4, V64 (z / 72057594037927936)), (2, bT), (2, V8 (z / 72057594037927936 % 256)), (0, V8 (z / 72057594037927936 % 128 + 128)), (4, V64 (z / 9223372036854775808)), (2, bF), (2, V8 (z / 9223372036854775808))]
def vN10 (z : Nat) : List (AV × AV) := [(C8 (z / 9223372036854775808), V8 (z / 9223372036854775808)), (geQ (z / 9223372036854775808) 128, bF), (R64 (z / 72057594037927936) 7, V64 (z / 9223372036854775808)), (O8 (z / 72057594037927936 % 256) 128, V8 (z / 72057594037927936 % 128 + 128)), (C8 (z / 72057594037927936), V8 (z / 72057594037927936 % 256)), (geQ (z / 72057594037927936) 128, bT), (R64 (z / 562949953421312) 7, V64 (z / 72057594037927936)), (O8 (z / 562949953421312 % 256) 128, V8 (z / 562949953421312 % 128 + 128)), (C8 (z / 562949953421312), V8 (z / 562949953421312 % 256)), (geQ (z / 562949953421312) 128, bT), (R64 (z / 4398046511104) 7, V64 (z / 562949953421312)), (O8 (z / 4398046511104 % 256) 128, V8 (z / 4398046511104 % 128 + 128)), (C8 (z / 4398046511104), V8 (z / 4398046511104 % 256)), (geQ (z / 4398046511104) 128, bT), (R64 (z / 34359738368) 7, V64 (z / 4398046511104)), (O8 (z / 34359738368 % 256) 128, V8 (z / 34359738368 % 128 + 128)), (C8 (z / 34359738368), V8 (z / 34359738368 % 256)), (geQ (z / 34359738368) 128, bT), (R64 (z / 268435456) 7, V64 (z / 34359738368)), (O8 (z / 268435456 % 256) 128, V8 (z / 268435456 % 128 + 128)), (C8 (z / 268435456), V8 (z / 268435456 % 256)), (geQ (z / 268435456) 128, bT), (R64 (z / 2097152) 7, V64 (z / 268435456)), (O8 (z / 2097152 % 256) 128, V8 (z / 2097152 % 128 + 128)), (C8 (z / 2097152), V8 (z / 2097152 % 256)), (geQ (z / 2097152) 128, bT), (R64 (z / 16384) 7, V64 (z / 2097152)), (O8 (z / 16384 % 256) 128, V8 (z / 16384 % 128 + 128)), (C8 (z / 16384), V8 (z / 16384 % 256)), (geQ (z / 16384) 128, bT), (R64 (z / 128) 7, V64 (z / 16384)), (O8 (z / 128 % 256) 128, V8 (z / 128 % 128 + 128)), (C8 (z / 128), V8 (z / 128 % 256)), (geQ (z / 128) 128, bT), (R64 z 7, V64 (z / 128)), (O8 (z % 256) 128, V8 (z % 128 + 128)), (C8 z, V8 (z % 256))]
theorem vH10 {z : Nat} (h0 : 9223372036854775808 ≤ z) (hzl : z < 18446744073709551616) : Hold (vN10 z) := (hold_eq (n_conv_u8 (by omega)) (hold_eq (n_geF (by omega)) (hold_eq (n_shr 128 (by decide) (by omega)) (hold_eq (n_or_u8 (by omega) (by omega)) (hold_eq (n_conv_u8 (by omega)) (hold_eq (n_geT (by omega)) (hold_eq (n_shr 128 (by decide) (by omega)) (hold_eq (n_or_u8 (by omega) (by omega)) (hold_eq (n_conv_u8 (by omega)) (hold_eq (n_geT (by omega)) (hold_eq (n_shr 128 (by decide) (by omega)) (hold_eq (n_or_u8 (by omega) (by omega)) (hold_eq (n_conv_u8 (by omega)) (hold_eq (n_geT (by omega)) (hold_eq (n_shr 128 (by decide) (by omega)) (hold_eq (n_or_u8 (by omega) (by omega)) (hold_eq (n_conv_u8 (by omega)) (hold_eq (n_geT (by omega)) (hold_eq (n_shr 128 (by decide) (by omega)) (hold_eq (n_or_u8 (by omega) (by omega)) (hold_eq (n_conv_u8 (by omega)) (hold_eq (n_geT (by omega)) (hold_eq (n_shr 128 (by decide) (by omega)) (hold_eq (n_or_u8 (by omega) (by omega)) (hold_eq (n_conv_u8 (by omega)) (hold_eq (n_geT (by omega)) (hold_eq (n_shr 128 (by decide) (by omega)) (hold_eq (n_or_u8 (by omega) (by omega)) (hold_eq (n_conv_u8 (by omega)) (hold_eq (n_geT (by omega)) (hold_eq (n_shr 128 (by decide) (by omega)) (hold_eq (n_or_u8 (by omega) (by omega)) (hold_eq (n_conv_u8 (by omega)) (hold_eq (n_geT (by omega)) (hold_eq (n_shr 128 (by decide) (by omega)) (hold_eq (n_or_u8 (by omega) (by omega)) (hold_eq (n_conv_u8 (by omega)) hold_nil)))))))))))))))))))))))))))))))))))))
end Be
end Go.Proofs.YtlemialjfnbchaaGreat

namespace Go.Proofs.YtlemialjfnbchaaGreat
open Go Go.Vm
set_option maxRecDepth 100000
namespace Be
abbrev TZ (n : Int) (m : Nat) : AV := .p (.int .i64 (n.tmod (Int.ofNat m)))
abbrev ivF (r : Int) : AV := .p (.float .f64 (FloatKind.nearest .f64 r))
abbrev bN (s : ByteArray) : AV := .p (.bool (s.toList != s.toList))
theorem n_bne (s : ByteArray) : bN s = bF := by simp [bN]
theorem z_tmod {n r : Int} (h : r = n.tmod 9) : TZ n 9 = wZ r := by subst h; rfl
theorem iv0 : ivF (((0 : Nat) : Int) - 8) = .p (.float .f64 (ub 0)) := by kernel_rfl
theorem iv1 : ivF (((1 : Nat) : Int) - 8) = .p (.float .f64 (ub 1)) := by kernel_rfl
theorem iv2 : ivF (((2 : Nat) : Int) - 8) = .p (.float .f64 (ub 2)) := by kernel_rfl
theorem iv3 : ivF (((3 : Nat) : Int) - 8) = .p (.float .f64 (ub 3)) := by kernel_rfl
theorem iv4 : ivF (((4 : Nat) : Int) - 8) = .p (.float .f64 (ub 4)) := by kernel_rfl
theorem iv5 : ivF (((5 : Nat) : Int) - 8) = .p (.float .f64 (ub 5)) := by kernel_rfl
theorem iv6 : ivF (((6 : Nat) : Int) - 8) = .p (.float .f64 (ub 6)) := by kernel_rfl
theorem iv7 : ivF (((7 : Nat) : Int) - 8) = .p (.float .f64 (ub 7)) := by kernel_rfl
theorem iv8 : ivF (((8 : Nat) : Int) - 8) = .p (.float .f64 (ub 8)) := by kernel_rfl
theorem iv9 : ivF (((9 : Nat) : Int) - 8) = .p (.float .f64 (ub 9)) := by kernel_rfl
theorem iv10 : ivF (((10 : Nat) : Int) - 8) = .p (.float .f64 (ub 10)) := by kernel_rfl
theorem iv11 : ivF (((11 : Nat) : Int) - 8) = .p (.float .f64 (ub 11)) := by kernel_rfl
theorem iv12 : ivF (((12 : Nat) : Int) - 8) = .p (.float .f64 (ub 12)) := by kernel_rfl
theorem iv13 : ivF (((13 : Nat) : Int) - 8) = .p (.float .f64 (ub 13)) := by kernel_rfl
theorem iv14 : ivF (((14 : Nat) : Int) - 8) = .p (.float .f64 (ub 14)) := by kernel_rfl
theorem iv15 : ivF (((15 : Nat) : Int) - 8) = .p (.float .f64 (ub 15)) := by kernel_rfl
theorem iv16 : ivF (((16 : Nat) : Int) - 8) = .p (.float .f64 (ub 16)) := by kernel_rfl
theorem n_ivF {i u : Nat} {r : Int} (hi : i < 17) (hu : u = ub i) (hr : r = (i : Int) - 8) : ivF r = .p (.float .f64 u) := by
  subst hu; subst hr
  match i, hi with
  | 0, _ => exact iv0
  | 1, _ => exact iv1
  | 2, _ => exact iv2
  | 3, _ => exact iv3
  | 4, _ => exact iv4
  | 5, _ => exact iv5
  | 6, _ => exact iv6
  | 7, _ => exact iv7
  | 8, _ => exact iv8
  | 9, _ => exact iv9
  | 10, _ => exact iv10
  | 11, _ => exact iv11
  | 12, _ => exact iv12
  | 13, _ => exact iv13
  | 14, _ => exact iv14
  | 15, _ => exact iv15
  | 16, _ => exact iv16
  | k + 17, h => exact absurd h (by omega)
theorem b_app {l k : List Nat} (hl : ∀ x ∈ l, x < 256) (hk : ∀ x ∈ k, x < 256) : ∀ x ∈ l ++ k, x < 256 := fun x hx => by
  rcases List.mem_append.1 hx with h | h
  · exact hl x h
  · exact hk x h
theorem tmod9 {n : Int} : ∃ (i : Nat) (r : Int), i < 17 ∧ r = n.tmod 9 ∧ r = (i : Int) - 8 := by
  have h1 : n.tmod 9 < 9 := Int.tmod_lt_of_pos n (by decide)
  have h2 : -9 < n.tmod 9 := Int.lt_tmod_of_pos n (by decide)
  exact ⟨(n.tmod 9 + 8).toNat, n.tmod 9, by omega, rfl, by omega⟩
end Be
end Go.Proofs.YtlemialjfnbchaaGreat

namespace Go.Proofs.YtlemialjfnbchaaGreat
open Go Go.Vm
set_option maxRecDepth 100000
namespace Be
abbrev CI (m : Nat) : AV := .p (.int .i64 (IntKind.wrap .i64 (Int.ofNat m)))
abbrev XI (z : Nat) : AV := .p (.int .i64 (IntKind.wrap .i64 (Int.ofNat (BitVec.ofInt 64 (Int.ofNat (z / 2)) ^^^ BitVec.ofInt 64 (IntKind.wrap .i64 (0 - Int.ofNat (z % 2)))).toNat)))
abbrev geZ (a b : Int) : AV := .p (.bool (decide (a ≥ b)))
abbrev leZ (a b : Int) : AV := .p (.bool (decide (a ≤ b)))
abbrev gtZ (a b : Int) : AV := .p (.bool (decide (a > b)))
abbrev ltZ (a b : Int) : AV := .p (.bool (decide (a < b)))
theorem n_geZT {a b : Int} (h : b ≤ a) : geZ a b = bT := by simp [h]
theorem n_leZT {a b : Int} (h : a ≤ b) : leZ a b = bT := by simp [h]
theorem n_gtZF {a b : Int} (h : a ≤ b) : gtZ a b = bF := by simp; omega
theorem n_ltZF {a b : Int} (h : b ≤ a) : ltZ a b = bF := by simp; omega
theorem wrapI64 {n : Int} (h : in64 n) : IntKind.wrap .i64 n = n := by
  unfold in64 at h
  show (if (true && decide ((n % 18446744073709551616 : Int) ≥ 9223372036854775808)) = true then n % 18446744073709551616 - 18446744073709551616 else n % 18446744073709551616) = n
  simp only [Bool.true_and, decide_eq_true_eq]
  split <;> omega
theorem n_conv_i64 {m : Nat} (h : m < 9223372036854775808) : CI m = Vi m := by
  unfold CI Vi
  rw [wrapI64 (by unfold in64; simp only [Int.ofNat_eq_natCast]; omega)]
theorem wrapI64_neg {m : Nat} (h1 : 9223372036854775808 ≤ m) (h2 : m < 18446744073709551616) : IntKind.wrap .i64 (Int.ofNat m) = (m : Int) - 18446744073709551616 := by
  show (if (true && decide (((Int.ofNat m) % 18446744073709551616 : Int) ≥ 9223372036854775808)) = true then (Int.ofNat m) % 18446744073709551616 - 18446744073709551616 else (Int.ofNat m) % 18446744073709551616) = _
  simp only [Bool.true_and, decide_eq_true_eq, Int.ofNat_eq_natCast]
  split <;> omega
theorem xor_ones {m : Nat} (h : m < 2 ^ 64) : m ^^^ (2 ^ 64 - 1) = 2 ^ 64 - 1 - m := by
  have h1 := BitVec.toNat_not (x := BitVec.ofNat 64 m)
  have h2 : (~~~ (BitVec.ofNat 64 m)) = BitVec.ofNat 64 m ^^^ BitVec.allOnes 64 := (BitVec.xor_allOnes).symm
  rw [h2, BitVec.toNat_xor, BitVec.toNat_ofNat, BitVec.toNat_allOnes, Nat.mod_eq_of_lt h] at h1
  exact h1
theorem z_zag {n : Int} {z : Nat} (hn : in64 n) (hz : z = zigN n) : XI z = wZ n := by
  have hzl : z < 18446744073709551616 := hz ▸ zig_lt hn
  unfold XI wZ
  unfold in64 at hn
  by_cases h0 : ¬ 0 ≤ n
  · have e2 : z = 2 * (-n).toNat - 1 := by rw [hz]; unfold zigN; rw [if_neg (by omega)]
    have e1 : z % 2 = 1 := by omega
    rw [e1, show (0 : Int) - Int.ofNat 1 = -1 from rfl, wrapI64 (show in64 (-1) by unfold in64; omega), BitVec.toNat_xor, bvNat (show z / 2 < 2 ^ 64 by simp; omega)]
    rw [show (BitVec.ofInt 64 (-1)).toNat = 2 ^ 64 - 1 from by decide]
    have hx : z / 2 ^^^ (2 ^ 64 - 1) = 2 ^ 64 - 1 - z / 2 := xor_ones (by simp; omega)
    rw [hx, wrapI64_neg (by simp; omega) (by simp; omega)]
    congr 2
    simp only [Nat.reducePow]
    omega
  · have e2 : z = 2 * n.toNat := by rw [hz]; unfold zigN; rw [if_pos (by omega)]
    have e1 : z % 2 = 0 := by omega
    rw [e1, show (0 : Int) - Int.ofNat 0 = 0 from rfl, wrapI64 (show in64 0 by unfold in64; omega), BitVec.toNat_xor, bvNat (show z / 2 < 2 ^ 64 by simp; omega)]
    rw [show (BitVec.ofInt 64 0).toNat = 0 from by decide, Nat.xor_zero, wrapI64 (by unfold in64; simp only [Int.ofNat_eq_natCast]; omega)]
    congr 2
    simp only [Int.ofNat_eq_natCast]
    omega
end Be
end Go.Proofs.YtlemialjfnbchaaGreat
