/- col.Best at a row of one number: what is taken as told. Made by gbest.py. -/
import Derived.Test.YtlemialjfnbchaaGreatLnG
import Derived.Test.YtlemialjfnbchaaGreatVmTb

namespace Go.Proofs.YtlemialjfnbchaaGreat
open Go Go.Vm
set_option maxRecDepth 100000
namespace Be
abbrev N64 (p q : Nat) : AV := .p (.int .u64 (IntKind.wrap .u64 (Int.ofNat (BitVec.ofInt 64 (Int.ofNat p) &&& BitVec.ofInt 64 (Int.ofNat q)).toNat)))
abbrev L8 (p j : Nat) : AV := .p (.int .u8 (IntKind.wrap .u8 (Int.ofNat p * 2 ^ (min (Int.toNat (Int.ofNat j)) IntKind.u8.bits))))
theorem n_and1_u64 {p e : Nat} (h : p < 18446744073709551616) (he : p % 2 = e) : N64 p 1 = V64 e := by
  subst he
  unfold N64 V64
  rw [BitVec.toNat_and, bvNat (by simpa using h), bvNat (by decide : 1 < 2 ^ 64), Nat.and_one_is_mod, wrapU64]
  congr 3; omega
theorem n_shl_u8 {p j e : Nat} (d : Nat) (hd : 2 ^ (min j 8) = d) (h : p * d % 256 = e) : L8 p j = V8 e := by
  subst h; subst hd
  have : Int.ofNat p * (2 : Int) ^ (min (Int.toNat (Int.ofNat j)) IntKind.u8.bits) = Int.ofNat (p * 2 ^ (min j 8)) := by
    show (p : Int) * (2 : Int) ^ (min j 8) = ((p * 2 ^ (min j 8) : Nat) : Int)
    rw [Int.natCast_mul, Int.natCast_pow]; rfl
  unfold L8 V8
  rw [this, wrapU8]
theorem n_or_u8g {p q e : Nat} (i hi : Nat) (hq : q = hi * 2 ^ i) (hp : p < 2 ^ i) (he : p + q = e) (h : e < 256) : O8 p q = V8 e := by
  subst he
  unfold O8 V8
  rw [BitVec.toNat_or, bvNat (show p < 2 ^ 8 by simp; omega), bvNat (show q < 2 ^ 8 by simp; omega), or_split hq hp, wrapU8, Nat.mod_eq_of_lt h]
noncomputable def mB : Vm.Mode := ⟨byMask 57896044618658920464162232821980448298161205217810393175413208097707989663744, fun f => cond (Nat.beq f 255) (some bitsV) none⟩
theorem mB_ok (f : FuncId) (K : List AV → List Blk → Option (AV × List Blk)) (h : mB.ov f = some K) (args : List AV) (hp : List Blk) (r : AV) (hp' : List Blk) (k : K args hp = some (r, hp')) : FnOk Tryz.prog f args hp r hp' := by
  rcases ov_cond h with ⟨rfl, rfl⟩ | h
  · exact Ln.len_con k
  cases h
noncomputable def mBr : Vm.Mode := ⟨byMask 57896044618658920464162232821980448298161205217810393175413208097707989663744, fun f => cond (Nat.beq f 255) (some bitsV) (cond (byMask 17502745019523916430049601769475789794898851183671895805493608134311954912462086681648469226398154752 f) (some fun args hp => Vm.runC Tryz.prog mB 100000 f args hp) none)⟩
theorem okBr (f : FuncId) (K : List AV → List Blk → Option (AV × List Blk)) (h : mBr.ov f = some K) (args : List AV) (hp : List Blk) (r : AV) (hp' : List Blk) (k : K args hp = some (r, hp')) : FnOk Tryz.prog f args hp r hp' := by
  rcases ov_cond h with ⟨rfl, rfl⟩ | h
  · exact Ln.len_con k
  cases hm : byMask 17502745019523916430049601769475789794898851183671895805493608134311954912462086681648469226398154752 f with
  | false => rw [hm] at h; cases h
  | true =>
    rw [hm] at h
    cases h
    exact runC_ok mB_ok 100000 _ _ _ _ _ k
abbrev vN (n : Int) : List AV := [.p (.int .i64 1), wZ n, .p (.string ⟨#[]⟩), .p (.complex .f64 0 0)]
abbrev arg (n : Int) : List AV := [.lst 1 (vN n), .p (.int .i64 1)]
end Be
end Go.Proofs.YtlemialjfnbchaaGreat
