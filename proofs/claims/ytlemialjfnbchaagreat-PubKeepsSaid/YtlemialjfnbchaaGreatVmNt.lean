/- Notes about numbers along a path: what the model reckons, in natural numbers. -/
import Derived.Test.YtlemialjfnbchaaGreatVmG
import Derived.Test.YtlemialjfnbchaaGreatVmM
import Derived.Test.YtlemialjfnbchaaGreatVmS2

namespace Go.Vm
open Go

abbrev V8 (e : Nat) : AV := .p (.int .u8 (Int.ofNat e))
abbrev V32 (e : Nat) : AV := .p (.int .u32 (Int.ofNat e))
abbrev V64 (e : Nat) : AV := .p (.int .u64 (Int.ofNat e))
abbrev Vi (e : Nat) : AV := .p (.int .i64 (Int.ofNat e))
abbrev bT : AV := .p (.bool true)
abbrev bF : AV := .p (.bool false)
abbrev C8 (m : Nat) : AV := .p (.int .u8 (IntKind.wrap .u8 (Int.ofNat m)))
abbrev C32 (m : Nat) : AV := .p (.int .u32 (IntKind.wrap .u32 (Int.ofNat m)))
abbrev C64 (m : Nat) : AV := .p (.int .u64 (IntKind.wrap .u64 (Int.ofNat m)))
abbrev A64 (p q : Nat) : AV := .p (.int .u64 (IntKind.wrap .u64 (Int.ofNat p + Int.ofNat q)))
abbrev M64 (p q : Nat) : AV := .p (.int .u64 (IntKind.wrap .u64 (Int.ofNat p * Int.ofNat q)))
abbrev N8 (p q : Nat) : AV := .p (.int .u8 (IntKind.wrap .u8 (Int.ofNat (BitVec.ofInt 8 (Int.ofNat p) &&& BitVec.ofInt 8 (Int.ofNat q)).toNat)))
abbrev O8 (p q : Nat) : AV := .p (.int .u8 (IntKind.wrap .u8 (Int.ofNat (BitVec.ofInt 8 (Int.ofNat p) ||| BitVec.ofInt 8 (Int.ofNat q)).toNat)))
abbrev O32 (p q : Nat) : AV := .p (.int .u32 (IntKind.wrap .u32 (Int.ofNat (BitVec.ofInt 32 (Int.ofNat p) ||| BitVec.ofInt 32 (Int.ofNat q)).toNat)))
abbrev O64 (p q : Nat) : AV := .p (.int .u64 (IntKind.wrap .u64 (Int.ofNat (BitVec.ofInt 64 (Int.ofNat p) ||| BitVec.ofInt 64 (Int.ofNat q)).toNat)))
abbrev R32 (p j : Nat) : AV := .p (.int .u32 (Int.fdiv (Int.ofNat p) (2 ^ (min (Int.toNat (Int.ofNat j)) IntKind.u32.bits))))
abbrev R64 (p j : Nat) : AV := .p (.int .u64 (Int.fdiv (Int.ofNat p) (2 ^ (min (Int.toNat (Int.ofNat j)) IntKind.u64.bits))))
abbrev L32 (p j : Nat) : AV := .p (.int .u32 (IntKind.wrap .u32 (Int.ofNat p * 2 ^ (min (Int.toNat (Int.ofNat j)) IntKind.u32.bits))))
abbrev L64 (p j : Nat) : AV := .p (.int .u64 (IntKind.wrap .u64 (Int.ofNat p * 2 ^ (min (Int.toNat (Int.ofNat j)) IntKind.u64.bits))))
abbrev T8 (p m : Nat) : AV := .p (.int .u8 ((Int.ofNat p).tmod (Int.ofNat m)))
abbrev T64 (p m : Nat) : AV := .p (.int .u64 ((Int.ofNat p).tmod (Int.ofNat m)))
abbrev geQ (p q : Nat) : AV := .p (.bool (decide (Int.ofNat p ≥ Int.ofNat q)))
abbrev gtQ (p q : Nat) : AV := .p (.bool (decide (Int.ofNat p > Int.ofNat q)))
abbrev ltQ (p q : Nat) : AV := .p (.bool (decide (Int.ofNat p < Int.ofNat q)))
abbrev leQ (p q : Nat) : AV := .p (.bool (decide (Int.ofNat p ≤ Int.ofNat q)))
abbrev eqQ (p q : Nat) : AV := .p (.bool (Int.ofNat p == Int.ofNat q))
abbrev neQ (p q : Nat) : AV := .p (.bool (Int.ofNat p != Int.ofNat q))
abbrev bQ (s : ByteArray) : AV := .p (.bool (s.toList == s.toList))
abbrev SU (n : Nat) (l : List Nat) : AV := outF (sumV [.lst n (u8A l)] [])
theorem b_zeros (n : Nat) : ∀ x ∈ List.replicate n 0, x < 256 := fun x hx => by rw [(List.mem_replicate.1 hx).2]; decide
/-- the string that a row of bytes makes -/
def strO (xs : List AV) : AV := outAV (match strOf xs with | some l => some (.val (.p (.string ⟨l.toArray⟩)) []) | none => none)
theorem strOf_u8 : ∀ {l : List Nat}, (∀ x ∈ l, x < 256) → strOf (u8A l) = some (l.map UInt8.ofNat)
  | [], _ => rfl
  | x :: l, h => by
    show (cond (Nat.blt x 256) (match strOf (u8A l) with | some r => some (UInt8.ofNat x :: r) | none => none) none) = _
    have hx : Nat.blt x 256 = true := Nat.ble_eq_true_of_le (h x (List.mem_cons_self ..))
    rw [hx, strOf_u8 (fun y hy => h y (List.mem_cons_of_mem _ hy))]
    rfl
theorem n_str {l : List Nat} {s : ByteArray} (h : ∀ x ∈ l, x < 256) (hs : s = ⟨(l.map UInt8.ofNat).toArray⟩) : strO (u8A l) = .p (.string s) := by
  unfold strO
  rw [strOf_u8 h, hs]
  rfl
theorem u8s_u8 : ∀ {l : List Nat}, (∀ x ∈ l, x < 256) → u8s (u8A l) = some l
  | [], _ => rfl
  | x :: l, h => by
    have hx : Nat.blt x 256 = true := Nat.ble_eq_true_of_le (h x (List.mem_cons_self ..))
    have ih := u8s_u8 (l := l) (fun y hy => h y (List.mem_cons_of_mem _ hy))
    simp only [u8A, List.map_cons, u8s, hx, cond_true] at ih ⊢
    rw [ih]
theorem n_beq (s : ByteArray) : (AV.p (.bool (s.toList == s.toList))) = .p (.bool true) := by simp
theorem n_geT {p q : Nat} (h : q ≤ p) : (AV.p (.bool (decide (Int.ofNat p ≥ Int.ofNat q)))) = .p (.bool true) := by simp; omega
theorem n_geF {p q : Nat} (h : p < q) : (AV.p (.bool (decide (Int.ofNat p ≥ Int.ofNat q)))) = .p (.bool false) := by simp; omega
theorem n_gtT {p q : Nat} (h : q < p) : (AV.p (.bool (decide (Int.ofNat p > Int.ofNat q)))) = .p (.bool true) := by simp; omega
theorem n_gtF {p q : Nat} (h : p ≤ q) : (AV.p (.bool (decide (Int.ofNat p > Int.ofNat q)))) = .p (.bool false) := by simp; omega
theorem n_ltT {p q : Nat} (h : p < q) : (AV.p (.bool (decide (Int.ofNat p < Int.ofNat q)))) = .p (.bool true) := by simp; omega
theorem n_ltF {p q : Nat} (h : q ≤ p) : (AV.p (.bool (decide (Int.ofNat p < Int.ofNat q)))) = .p (.bool false) := by simp; omega
theorem n_leT {p q : Nat} (h : p ≤ q) : (AV.p (.bool (decide (Int.ofNat p ≤ Int.ofNat q)))) = .p (.bool true) := by simp; omega
theorem n_leF {p q : Nat} (h : q < p) : (AV.p (.bool (decide (Int.ofNat p ≤ Int.ofNat q)))) = .p (.bool false) := by simp; omega
theorem n_eqT {p q : Nat} (h : p = q) : (AV.p (.bool (Int.ofNat p == Int.ofNat q))) = .p (.bool true) := by subst h; simp
theorem n_eqF {p q : Nat} (h : p ≠ q) : (AV.p (.bool (Int.ofNat p == Int.ofNat q))) = .p (.bool false) := by simp; omega
theorem n_neT {p q : Nat} (h : p ≠ q) : (AV.p (.bool (Int.ofNat p != Int.ofNat q))) = .p (.bool true) := by simp; omega
theorem n_neF {p q : Nat} (h : p = q) : (AV.p (.bool (Int.ofNat p != Int.ofNat q))) = .p (.bool false) := by subst h; simp
theorem wrapU8 {m : Nat} : IntKind.wrap .u8 (Int.ofNat m) = Int.ofNat (m % 256) := by
  show (if (false && decide ((Int.ofNat m % 256 : Int) ≥ 128)) = true then Int.ofNat m % 256 - 256 else Int.ofNat m % 256) = _
  simp
theorem wrapU32 {m : Nat} : IntKind.wrap .u32 (Int.ofNat m) = Int.ofNat (m % 4294967296) := by
  show (if (false && decide ((Int.ofNat m % 4294967296 : Int) ≥ 2147483648)) = true then Int.ofNat m % 4294967296 - 4294967296 else Int.ofNat m % 4294967296) = _
  simp
theorem wrapU64 {m : Nat} : IntKind.wrap .u64 (Int.ofNat m) = Int.ofNat (m % 18446744073709551616) := by
  show (if (false && decide ((Int.ofNat m % 18446744073709551616 : Int) ≥ 9223372036854775808)) = true then Int.ofNat m % 18446744073709551616 - 18446744073709551616 else Int.ofNat m % 18446744073709551616) = _
  simp
theorem n_conv_u8 {m e : Nat} (h : m % 256 = e) : (AV.p (.int .u8 (IntKind.wrap .u8 (Int.ofNat m)))) = .p (.int .u8 (Int.ofNat e)) := by rw [wrapU8, h]
theorem n_conv_u32 {m e : Nat} (h : m % 4294967296 = e) : (AV.p (.int .u32 (IntKind.wrap .u32 (Int.ofNat m)))) = .p (.int .u32 (Int.ofNat e)) := by rw [wrapU32, h]
theorem n_conv_u64 {m e : Nat} (h : m % 18446744073709551616 = e) : (AV.p (.int .u64 (IntKind.wrap .u64 (Int.ofNat m)))) = .p (.int .u64 (Int.ofNat e)) := by rw [wrapU64, h]
theorem n_add_u64 {p q e : Nat} (h : (p + q) % 18446744073709551616 = e) : (AV.p (.int .u64 (IntKind.wrap .u64 (Int.ofNat p + Int.ofNat q)))) = .p (.int .u64 (Int.ofNat e)) := by
  rw [show Int.ofNat p + Int.ofNat q = Int.ofNat (p + q) from rfl, wrapU64, h]
theorem n_mul_u64 {p q e : Nat} (h : (p * q) % 18446744073709551616 = e) : (AV.p (.int .u64 (IntKind.wrap .u64 (Int.ofNat p * Int.ofNat q)))) = .p (.int .u64 (Int.ofNat e)) := by
  rw [show Int.ofNat p * Int.ofNat q = Int.ofNat (p * q) from rfl, wrapU64, h]
theorem n_tmod {k : IntKind} {p m e : Nat} (h : p % m = e) : (AV.p (.int k ((Int.ofNat p).tmod (Int.ofNat m)))) = .p (.int k (Int.ofNat e)) := by
  rw [show (Int.ofNat p).tmod (Int.ofNat m) = Int.ofNat (p % m) from rfl, h]
theorem n_shr {k : IntKind} {p j e : Nat} (d : Nat) (hd : 2 ^ (min j k.bits) = d) (h : p / d = e) : (AV.p (.int k (Int.fdiv (Int.ofNat p) (2 ^ (min (Int.toNat (Int.ofNat j)) k.bits))))) = .p (.int k (Int.ofNat e)) := by
  subst h; subst hd
  have : (2 : Int) ^ (min (Int.toNat (Int.ofNat j)) k.bits) = Int.ofNat (2 ^ (min j k.bits)) := by
    show (2 : Int) ^ (min j k.bits) = ((2 ^ (min j k.bits) : Nat) : Int)
    rw [Int.natCast_pow]; rfl
  rw [this]
  have h2 : (Int.ofNat p).fdiv (Int.ofNat (2 ^ (min j k.bits))) = Int.ofNat (p / 2 ^ (min j k.bits)) := by
    exact (Int.fdiv_eq_ediv_of_nonneg (Int.ofNat p) (Int.natCast_nonneg (2 ^ (min j k.bits)))).trans rfl
  rw [h2]
theorem n_shl_u32 {p j e : Nat} (d : Nat) (hd : 2 ^ (min j 32) = d) (h : p * d % 4294967296 = e) : (AV.p (.int .u32 (IntKind.wrap .u32 (Int.ofNat p * 2 ^ (min (Int.toNat (Int.ofNat j)) IntKind.u32.bits))))) = .p (.int .u32 (Int.ofNat e)) := by
  subst h; subst hd
  have : Int.ofNat p * (2 : Int) ^ (min (Int.toNat (Int.ofNat j)) IntKind.u32.bits) = Int.ofNat (p * 2 ^ (min j 32)) := by
    show (p : Int) * (2 : Int) ^ (min j 32) = ((p * 2 ^ (min j 32) : Nat) : Int)
    rw [Int.natCast_mul, Int.natCast_pow]; rfl
  rw [this, wrapU32]
theorem n_shl_u64 {p j e : Nat} (d : Nat) (hd : 2 ^ (min j 64) = d) (h : p * d % 18446744073709551616 = e) : (AV.p (.int .u64 (IntKind.wrap .u64 (Int.ofNat p * 2 ^ (min (Int.toNat (Int.ofNat j)) IntKind.u64.bits))))) = .p (.int .u64 (Int.ofNat e)) := by
  subst h; subst hd
  have : Int.ofNat p * (2 : Int) ^ (min (Int.toNat (Int.ofNat j)) IntKind.u64.bits) = Int.ofNat (p * 2 ^ (min j 64)) := by
    show (p : Int) * (2 : Int) ^ (min j 64) = ((p * 2 ^ (min j 64) : Nat) : Int)
    rw [Int.natCast_mul, Int.natCast_pow]; rfl
  rw [this, wrapU64]
theorem bvNat {n p : Nat} (h : p < 2 ^ n) : (BitVec.ofInt n (Int.ofNat p)).toNat = p := by
  show (BitVec.ofInt n (p : Int)).toNat = p
  rw [BitVec.ofInt_natCast, BitVec.toNat_ofNat, Nat.mod_eq_of_lt h]
theorem or_split {p q hi i : Nat} (hq : q = hi * 2 ^ i) (hp : p < 2 ^ i) : p ||| q = p + q := by
  have := Nat.two_pow_add_eq_or_of_lt hp hi
  rw [hq, Nat.or_comm, Nat.mul_comm, ← this, Nat.add_comm]
theorem n_or_u8 {p e : Nat} (h : p < 256) (he : p % 128 + 128 = e) : (AV.p (.int .u8 (IntKind.wrap .u8 (Int.ofNat (BitVec.ofInt 8 (Int.ofNat p) ||| BitVec.ofInt 8 (Int.ofNat 128)).toNat)))) = .p (.int .u8 (Int.ofNat e)) := by
  have : ∀ p < 256, (BitVec.ofInt 8 (Int.ofNat p) ||| BitVec.ofInt 8 (Int.ofNat 128)).toNat = p % 128 + 128 := by decide +kernel
  rw [this p h, wrapU8, he]
  congr 2; simp only [Int.ofNat_eq_natCast]; omega
theorem n_and_u8 {p e : Nat} (h : p < 256) (he : p % 128 = e) : (AV.p (.int .u8 (IntKind.wrap .u8 (Int.ofNat (BitVec.ofInt 8 (Int.ofNat p) &&& BitVec.ofInt 8 (Int.ofNat 127)).toNat)))) = .p (.int .u8 (Int.ofNat e)) := by
  have : ∀ p < 256, (BitVec.ofInt 8 (Int.ofNat p) &&& BitVec.ofInt 8 (Int.ofNat 127)).toNat = p % 128 := by decide +kernel
  rw [this p h, wrapU8, he]
  congr 2; simp only [Int.ofNat_eq_natCast]; omega
theorem n_or0_u64 {p e : Nat} (h : p < 18446744073709551616) (he : p = e) : (AV.p (.int .u64 (IntKind.wrap .u64 (Int.ofNat (BitVec.ofInt 64 (Int.ofNat 0) ||| BitVec.ofInt 64 (Int.ofNat p)).toNat)))) = .p (.int .u64 (Int.ofNat e)) := by
  subst he
  rw [BitVec.toNat_or, bvNat (by decide : 0 < 2 ^ 64), bvNat (by simpa using h), Nat.zero_or, wrapU64, Nat.mod_eq_of_lt h]
theorem n_or_u64 {p q e : Nat} (i hi : Nat) (hq : q = hi * 2 ^ i) (hp : p < 2 ^ i) (he : p + q = e) (h : e < 18446744073709551616) : (AV.p (.int .u64 (IntKind.wrap .u64 (Int.ofNat (BitVec.ofInt 64 (Int.ofNat p) ||| BitVec.ofInt 64 (Int.ofNat q)).toNat)))) = .p (.int .u64 (Int.ofNat e)) := by
  subst he
  rw [BitVec.toNat_or, bvNat (show p < 2 ^ 64 by simp; omega), bvNat (show q < 2 ^ 64 by simp; omega), or_split hq hp, wrapU64, Nat.mod_eq_of_lt h]
theorem n_or_u32 {p q e : Nat} (i hi : Nat) (hq : q = hi * 2 ^ i) (hp : p < 2 ^ i) (he : p + q = e) (h : e < 4294967296) : (AV.p (.int .u32 (IntKind.wrap .u32 (Int.ofNat (BitVec.ofInt 32 (Int.ofNat p) ||| BitVec.ofInt 32 (Int.ofNat q)).toNat)))) = .p (.int .u32 (Int.ofNat e)) := by
  subst he
  rw [BitVec.toNat_or, bvNat (show p < 2 ^ 32 by simp; omega), bvNat (show q < 2 ^ 32 by simp; omega), or_split hq hp, wrapU32, Nat.mod_eq_of_lt h]
theorem crc_lt {l : List Nat} (h : ∀ x ∈ l, x < 256) : crc l < 4294967296 := by
  unfold crc
  have := crcL_lt h (s := 0xFFFFFFFF) (by decide)
  exact Nat.xor_lt_two_pow (n := 32) this (by decide)
theorem n_crc {n c : Nat} {l : List Nat} (h : ∀ x ∈ l, x < 256) (hn : n = l.length) (hl : l.length < 1000000) (hc : c = crc l) : outF (sumV [.lst n (u8A l)] []) = .p (.int .u32 (Int.ofNat c)) := by
  subst hc
  subst hn
  have hf : frz [] (.lst l.length (u8A l)) = some (.lst l.length (u8A l), []) := rfl
  have h1 : Nat.beq (u8A l).length l.length = true := by simp [u8A]
  have h2 : Nat.blt l.length 1000000 = true := Nat.ble_eq_true_of_le hl
  unfold sumV
  simp only [hf, h1, h2, u8s_u8 h, Bool.and_true, cond_true]
  rfl
/-- all of a row are bytes -/
theorem b_nil : ∀ x ∈ ([] : List Nat), x < 256 := fun x h => by cases h
theorem b_cons {y : Nat} {l : List Nat} (h : y < 256) (k : ∀ x ∈ l, x < 256) : ∀ x ∈ (y :: l), x < 256 := fun x hx => by
  rcases List.mem_cons.1 hx with rfl | hx
  · exact h
  · exact k x hx
end Go.Vm
