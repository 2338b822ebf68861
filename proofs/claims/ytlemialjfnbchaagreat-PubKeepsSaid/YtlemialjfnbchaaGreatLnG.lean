/- How many bits a number has; numbers turned so that small ones have few bits. -/
import Derived.Test.YtlemialjfnbchaaGreatVmNt
import Derived.Test.YtlemialjfnbchaaGreatVmF
import Derived.KernelRfl
import Derived.Test.YtlemialjfnbchaaGreatProg

namespace Go.Vm
open Go
/-- how many bits a number has -/
def bl (n : Nat) : Nat := cond (Nat.beq n 0) 0 (Nat.log2 n + 1)
theorem bl_zero : bl 0 = 0 := rfl
theorem bl_half {n : Nat} (h : n ≠ 0) : bl n = bl (n / 2) + 1 := by
  have e : Nat.beq n 0 = false := by cases n with | zero => exact absurd rfl h | succ m => rfl
  unfold bl
  rw [e, cond_false, Nat.log2_def]
  by_cases h2 : n ≥ 2
  · rw [if_pos h2]
    have : Nat.beq (n / 2) 0 = false := by
      cases hq : n / 2 with
      | zero => omega
      | succ m => rfl
    rw [this, cond_false]
  · rw [if_neg h2]
    have : n / 2 = 0 := by omega
    rw [this]; rfl
theorem bl_lt : ∀ (w n : Nat), bl n ≤ w ↔ n < 2 ^ w
  | 0, n => by
    by_cases h : n = 0
    · subst h; simp [bl_zero]
    · rw [bl_half h]; simp; omega
  | w + 1, n => by
    by_cases h : n = 0
    · subst h; simp [bl_zero, Nat.two_pow_pos]
    · have := bl_lt w (n / 2)
      rw [bl_half h, Nat.pow_succ]
      omega
theorem bl_ge {w n : Nat} (h : bl n = w + 1) : 2 ^ w ≤ n := by
  rcases Nat.lt_or_ge n (2 ^ w) with q | q
  · have := (bl_lt w n).2 q
    omega
  · exact q
theorem bl_up {w n : Nat} (h : bl n = w) : n < 2 ^ w := (bl_lt w n).1 (Nat.le_of_eq h)
theorem bl_shift : ∀ (k n : Nat), n / 2 ^ k ≠ 0 → bl n = bl (n / 2 ^ k) + k
  | 0, n, _ => by simp
  | k + 1, n, h => by
    have h1 : n ≠ 0 := fun e => by subst e; simp at h
    have h2 : n / 2 / 2 ^ k = n / 2 ^ (k + 1) := by rw [Nat.div_div_eq_div_mul, Nat.pow_succ, Nat.mul_comm]
    rw [bl_half h1, bl_shift k (n / 2) (by rw [h2]; exact h), h2]
    omega
/-- the contract of bits.Len64 -/
def bitsV (args : List AV) (hp : List Blk) : Option (AV × List Blk) :=
  match args with
  | [.p (.int .u64 (.ofNat x))] => cond (Nat.blt x 18446744073709551616) (some (.p (.int .i64 (Int.ofNat (bl x))), hp)) none
  | _ => none
theorem n_len {x w : Nat} (h : x < 18446744073709551616) (hw : bl x = w) : outF (bitsV [V64 x] []) = Vi w := by
  have e : Nat.blt x 18446744073709551616 = true := Nat.ble_eq_true_of_le h
  show outF (cond (Nat.blt x 18446744073709551616) (some (.p (.int .i64 (Int.ofNat (bl x))), [])) none) = _
  rw [e, hw]
  rfl
theorem bitsV_ok {P : Program} {f : FuncId} (hf : ∀ x, x < 18446744073709551616 → FnOk P f [V64 x] [] (Vi (bl x)) []) {args : List AV} {hp hp' : List Blk} {r : AV} (h : bitsV args hp = some (r, hp')) : FnOk P f args hp r hp' := by
  unfold bitsV at h
  split at h
  · rename_i x
    cases hx : Nat.blt x 18446744073709551616 with
    | false => rw [hx] at h; cases h
    | true =>
      rw [hx, cond_true] at h
      cases h
      exact FnOk.of_frz (y := V64 x) (hp1 := hp) rfl rfl (hf x (Nat.le_of_ble_eq_true hx))
  · cases h
/-! ### zig: small numbers, below nothing or above, have few bits -/
def zigN (n : Int) : Nat := if 0 ≤ n then 2 * n.toNat else 2 * (-n).toNat - 1
def unN (n : Int) : Nat := (n % 18446744073709551616).toNat
def sgN (n : Int) : Int := if 0 ≤ n then 0 else -1
def in64 (n : Int) : Prop := -9223372036854775808 ≤ n ∧ n < 9223372036854775808
theorem zig_lt {n : Int} (h : in64 n) : zigN n < 18446744073709551616 := by
  unfold zigN; unfold in64 at h; split <;> omega
abbrev CZ (n : Int) : AV := .p (.int .u64 (IntKind.wrap .u64 n))
abbrev RZ (n : Int) (j : Nat) : AV := .p (.int .i64 (Int.fdiv n (2 ^ (min (Int.toNat (Int.ofNat j)) IntKind.i64.bits))))
abbrev SZ (n m : Int) : AV := .p (.int .i64 (IntKind.wrap .i64 (n - m)))
abbrev wZ (n : Int) : AV := .p (.int .i64 n)
abbrev X64 (p q : Nat) : AV := .p (.int .u64 (IntKind.wrap .u64 (Int.ofNat (BitVec.ofInt 64 (Int.ofNat p) ^^^ BitVec.ofInt 64 (Int.ofNat q)).toNat)))
theorem z_conv {n : Int} {u : Nat} (hu : u = unN n) : CZ n = V64 u := by
  subst hu
  unfold unN
  have : IntKind.wrap .u64 n = n % 18446744073709551616 := by
    show (if (false && decide ((n % 18446744073709551616 : Int) ≥ 9223372036854775808)) = true then n % 18446744073709551616 - 18446744073709551616 else n % 18446744073709551616) = _
    simp
  unfold CZ
  rw [this]
  congr 2
  have := Int.emod_nonneg n (by decide : (18446744073709551616 : Int) ≠ 0)
  simp only [Int.ofNat_eq_natCast]
  omega
theorem z_shr {n s : Int} (hn : in64 n) (hs : s = sgN n) : RZ n 63 = wZ s := by
  subst hs
  have e : (2 : Int) ^ (min (Int.toNat (Int.ofNat 63)) IntKind.i64.bits) = 9223372036854775808 := by decide
  unfold RZ wZ sgN
  rw [e]
  congr 2
  rw [Int.fdiv_eq_ediv_of_nonneg _ (by decide)]
  unfold in64 at hn
  split <;> omega
theorem z_sg {n s : Int} {t : Nat} (hs : s = sgN n) (ht : t = if 0 ≤ n then 0 else 18446744073709551615) : CZ s = V64 t := by
  subst hs; subst ht
  unfold sgN
  split <;> rfl
theorem z_sub {n : Int} (hn : in64 n) : SZ n (Int.ofNat 0) = wZ n := by
  unfold SZ wZ
  congr 2
  unfold in64 at hn
  show (if (true && decide (((n - Int.ofNat 0) % 18446744073709551616 : Int) ≥ 9223372036854775808)) = true then (n - Int.ofNat 0) % 18446744073709551616 - 18446744073709551616 else (n - Int.ofNat 0) % 18446744073709551616) = _
  simp only [Bool.true_and, decide_eq_true_eq, Int.ofNat_eq_natCast]
  split <;> omega
theorem xor_ones (a k : Nat) (h : a < 2 ^ k) : a ^^^ (2 ^ k - 1) = 2 ^ k - 1 - a := by
  have h1 : (BitVec.ofNat k a ^^^ BitVec.allOnes k).toNat = 2 ^ k - 1 - a := by
    rw [BitVec.xor_allOnes, BitVec.toNat_not, BitVec.toNat_ofNat, Nat.mod_eq_of_lt h]
  rw [← h1, BitVec.toNat_xor, BitVec.toNat_ofNat, Nat.mod_eq_of_lt h, BitVec.toNat_allOnes]
theorem z_xor {n : Int} {u a t z : Nat} (hn : in64 n) (hu : u = unN n) (ha : a = 2 * u % 18446744073709551616) (ht : t = if 0 ≤ n then 0 else 18446744073709551615) (hz : z = zigN n) : X64 a t = V64 z := by
  have hu2 : u < 18446744073709551616 := by subst hu; unfold unN; omega
  have ha2 : a < 2 ^ 64 := by simp; omega
  have ht2 : t < 2 ^ 64 := by subst ht; split <;> simp
  unfold X64 V64
  rw [BitVec.toNat_xor, bvNat ha2, bvNat ht2, wrapU64]
  congr 3
  subst hz; subst ht
  unfold zigN
  unfold in64 at hn
  have hun : u = if 0 ≤ n then n.toNat else (n + 18446744073709551616).toNat := by
    subst hu; unfold unN; split <;> omega
  split
  · rename_i h0
    rw [Nat.xor_zero]
    rw [if_pos h0] at hun
    omega
  · rename_i h0
    rw [if_neg h0] at hun
    have hx : a ^^^ 18446744073709551615 = 18446744073709551615 - a := by
      have := xor_ones a 64 ha2
      exact this
    rw [hx]
    omega
theorem n_self (n : Int) : (AV.p (.bool (!(true && ((n == n) && true))))) = .p (.bool false) := by simp
end Go.Vm

namespace Go.Proofs.YtlemialjfnbchaaGreat
open Go Go.Vm
set_option maxRecDepth 100000
namespace Ln
def mL : Vm.Mode := ⟨fun _ => true, fun _ => none⟩
theorem okL (f : FuncId) (F : List AV → List Blk → Option (AV × List Blk)) (h : mL.ov f = some F) (args : List AV) (hp : List Blk) (r : AV) (hp' : List Blk) (_ : F args hp = some (r, hp')) : FnOk Tryz.prog f args hp r hp' := by cases h
theorem ln0 (x  : Nat) : ((List.range 256).map fun e => runS Tryz.prog mL 100 255 [V64 x] [] ([(2, bF), (1, bF), (1, bF), (2, V8 e)], [])) = (List.range 256).map fun e => some (Vi (0 + bl e), [], ([], [(C8 x, V8 e), (geQ x 256, bF), (geQ x 65536, bF), (geQ x 4294967296, bF)])) := by kernel_rfl
theorem ln0_ok {x  : Nat} (hx : x < 18446744073709551616) (h4 : x < 4294967296) (h2 : x < 65536) (h1 : x < 256) : FnOk Tryz.prog 255 [V64 x] [] (Vi (bl x)) [] := by
  obtain ⟨e, he⟩ : ∃ e, x % 256 = e := ⟨_, rfl⟩
  have he2 : x = e := by omega
  have hb : bl x = 0 + bl e := by
    rw [← he2]; omega
  rw [hb]
  have hr := List.map_inj_left.1 (ln0 x ) e (by rw [List.mem_range]; omega)
  exact runV_ok (M := mL) okL 100 _ _ _ _ _ (runS_run hr (hold_eq (n_conv_u8 he) (hold_eq (n_geF (by omega)) (hold_eq (n_geF (by omega)) (hold_eq (n_geF (by omega)) hold_nil)))))
theorem ln1 (x y0 : Nat) : ((List.range 256).map fun e => runS Tryz.prog mL 100 255 [V64 x] [] ([(2, bF), (1, bF), (1, bT), (1, V64 y0), (6, V8 e)], [])) = (List.range 256).map fun e => some (Vi (8 + bl e), [], ([], [(C8 y0, V8 e), (R64 x 8, V64 y0), (geQ x 256, bT), (geQ x 65536, bF), (geQ x 4294967296, bF)])) := by kernel_rfl
theorem ln1_ok {x y0 : Nat} (hx : x < 18446744073709551616) (h4 : x < 4294967296) (h2 : x < 65536) (h1 : 256 ≤ x) (ey0 : y0 = x / 256) : FnOk Tryz.prog 255 [V64 x] [] (Vi (bl x)) [] := by
  obtain ⟨e, he⟩ : ∃ e, y0 % 256 = e := ⟨_, rfl⟩
  have he2 : y0 = e := by omega
  have hb : bl x = 8 + bl e := by
    have h1 : x / 2 ^ 8 = e := by simp only [show (2 : Nat) ^ 8 = 256 from by decide]; omega
    rw [bl_shift 8 x (by rw [h1]; omega), h1]; omega
  rw [hb]
  have hr := List.map_inj_left.1 (ln1 x y0) e (by rw [List.mem_range]; omega)
  exact runV_ok (M := mL) okL 100 _ _ _ _ _ (runS_run hr (hold_eq (n_conv_u8 he) (hold_eq (n_shr 256 (by decide) ey0.symm) (hold_eq (n_geT (by omega)) (hold_eq (n_geF (by omega)) (hold_eq (n_geF (by omega)) hold_nil))))))
theorem ln2 (x y0 : Nat) : ((List.range 256).map fun e => runS Tryz.prog mL 100 255 [V64 x] [] ([(2, bF), (1, bT), (1, V64 y0), (5, bF), (2, V8 e)], [])) = (List.range 256).map fun e => some (Vi (16 + bl e), [], ([], [(C8 y0, V8 e), (geQ y0 256, bF), (R64 x 16, V64 y0), (geQ x 65536, bT), (geQ x 4294967296, bF)])) := by kernel_rfl
theorem ln2_ok {x y0 : Nat} (hx : x < 18446744073709551616) (h4 : x < 4294967296) (h2 : 65536 ≤ x) (ey0 : y0 = x / 65536) (h1 : y0 < 256) : FnOk Tryz.prog 255 [V64 x] [] (Vi (bl x)) [] := by
  obtain ⟨e, he⟩ : ∃ e, y0 % 256 = e := ⟨_, rfl⟩
  have he2 : y0 = e := by omega
  have hb : bl x = 16 + bl e := by
    have h1 : x / 2 ^ 16 = e := by simp only [show (2 : Nat) ^ 16 = 65536 from by decide]; omega
    rw [bl_shift 16 x (by rw [h1]; omega), h1]; omega
  rw [hb]
  have hr := List.map_inj_left.1 (ln2 x y0) e (by rw [List.mem_range]; omega)
  exact runV_ok (M := mL) okL 100 _ _ _ _ _ (runS_run hr (hold_eq (n_conv_u8 he) (hold_eq (n_geF (by omega)) (hold_eq (n_shr 65536 (by decide) ey0.symm) (hold_eq (n_geT (by omega)) (hold_eq (n_geF (by omega)) hold_nil))))))
theorem ln3 (x y0 y1 : Nat) : ((List.range 256).map fun e => runS Tryz.prog mL 100 255 [V64 x] [] ([(2, bF), (1, bT), (1, V64 y0), (5, bT), (1, V64 y1), (6, V8 e)], [])) = (List.range 256).map fun e => some (Vi (24 + bl e), [], ([], [(C8 y1, V8 e), (R64 y0 8, V64 y1), (geQ y0 256, bT), (R64 x 16, V64 y0), (geQ x 65536, bT), (geQ x 4294967296, bF)])) := by kernel_rfl
theorem ln3_ok {x y0 y1 : Nat} (hx : x < 18446744073709551616) (h4 : x < 4294967296) (h2 : 65536 ≤ x) (ey0 : y0 = x / 65536) (h1 : 256 ≤ y0) (ey1 : y1 = y0 / 256) : FnOk Tryz.prog 255 [V64 x] [] (Vi (bl x)) [] := by
  obtain ⟨e, he⟩ : ∃ e, y1 % 256 = e := ⟨_, rfl⟩
  have he2 : y1 = e := by omega
  have hb : bl x = 24 + bl e := by
    have h1 : x / 2 ^ 24 = e := by simp only [show (2 : Nat) ^ 24 = 16777216 from by decide]; omega
    rw [bl_shift 24 x (by rw [h1]; omega), h1]; omega
  rw [hb]
  have hr := List.map_inj_left.1 (ln3 x y0 y1) e (by rw [List.mem_range]; omega)
  exact runV_ok (M := mL) okL 100 _ _ _ _ _ (runS_run hr (hold_eq (n_conv_u8 he) (hold_eq (n_shr 256 (by decide) ey1.symm) (hold_eq (n_geT (by omega)) (hold_eq (n_shr 65536 (by decide) ey0.symm) (hold_eq (n_geT (by omega)) (hold_eq (n_geF (by omega)) hold_nil)))))))
theorem ln4 (x y0 : Nat) : ((List.range 256).map fun e => runS Tryz.prog mL 100 255 [V64 x] [] ([(2, bT), (1, V64 y0), (3, bF), (1, bF), (2, V8 e)], [])) = (List.range 256).map fun e => some (Vi (32 + bl e), [], ([], [(C8 y0, V8 e), (geQ y0 256, bF), (geQ y0 65536, bF), (R64 x 32, V64 y0), (geQ x 4294967296, bT)])) := by kernel_rfl
theorem ln4_ok {x y0 : Nat} (hx : x < 18446744073709551616) (h4 : 4294967296 ≤ x) (ey0 : y0 = x / 4294967296) (h2 : y0 < 65536) (h1 : y0 < 256) : FnOk Tryz.prog 255 [V64 x] [] (Vi (bl x)) [] := by
  obtain ⟨e, he⟩ : ∃ e, y0 % 256 = e := ⟨_, rfl⟩
  have he2 : y0 = e := by omega
  have hb : bl x = 32 + bl e := by
    have h1 : x / 2 ^ 32 = e := by simp only [show (2 : Nat) ^ 32 = 4294967296 from by decide]; omega
    rw [bl_shift 32 x (by rw [h1]; omega), h1]; omega
  rw [hb]
  have hr := List.map_inj_left.1 (ln4 x y0) e (by rw [List.mem_range]; omega)
  exact runV_ok (M := mL) okL 100 _ _ _ _ _ (runS_run hr (hold_eq (n_conv_u8 he) (hold_eq (n_geF (by omega)) (hold_eq (n_geF (by omega)) (hold_eq (n_shr 4294967296 (by decide) ey0.symm) (hold_eq (n_geT (by omega)) hold_nil))))))
theorem ln5 (x y0 y1 : Nat) : ((List.range 256).map fun e => runS Tryz.prog mL 100 255 [V64 x] [] ([(2, bT), (1, V64 y0), (3, bF), (1, bT), (1, V64 y1), (6, V8 e)], [])) = (List.range 256).map fun e => some (Vi (40 + bl e), [], ([], [(C8 y1, V8 e), (R64 y0 8, V64 y1), (geQ y0 256, bT), (geQ y0 65536, bF), (R64 x 32, V64 y0), (geQ x 4294967296, bT)])) := by kernel_rfl
theorem ln5_ok {x y0 y1 : Nat} (_hx : x < 18446744073709551616) (h4 : 4294967296 ≤ x) (ey0 : y0 = x / 4294967296) (h2 : y0 < 65536) (h1 : 256 ≤ y0) (ey1 : y1 = y0 / 256) : FnOk Tryz.prog 255 [V64 x] [] (Vi (bl x)) [] := by
  obtain ⟨e, he⟩ : ∃ e, y1 % 256 = e := ⟨_, rfl⟩
  have he2 : y1 = e := by omega
  have hb : bl x = 40 + bl e := by
    have h1 : x / 2 ^ 40 = e := by simp only [show (2 : Nat) ^ 40 = 1099511627776 from by decide]; omega
    rw [bl_shift 40 x (by rw [h1]; omega), h1]; omega
  rw [hb]
  have hr := List.map_inj_left.1 (ln5 x y0 y1) e (by rw [List.mem_range]; omega)
  exact runV_ok (M := mL) okL 100 _ _ _ _ _ (runS_run hr (hold_eq (n_conv_u8 he) (hold_eq (n_shr 256 (by decide) ey1.symm) (hold_eq (n_geT (by omega)) (hold_eq (n_geF (by omega)) (hold_eq (n_shr 4294967296 (by decide) ey0.symm) (hold_eq (n_geT (by omega)) hold_nil)))))))
theorem ln6 (x y0 y1 : Nat) : ((List.range 256).map fun e => runS Tryz.prog mL 100 255 [V64 x] [] ([(2, bT), (1, V64 y0), (3, bT), (1, V64 y1), (5, bF), (2, V8 e)], [])) = (List.range 256).map fun e => some (Vi (48 + bl e), [], ([], [(C8 y1, V8 e), (geQ y1 256, bF), (R64 y0 16, V64 y1), (geQ y0 65536, bT), (R64 x 32, V64 y0), (geQ x 4294967296, bT)])) := by kernel_rfl
theorem ln6_ok {x y0 y1 : Nat} (hx : x < 18446744073709551616) (h4 : 4294967296 ≤ x) (ey0 : y0 = x / 4294967296) (h2 : 65536 ≤ y0) (ey1 : y1 = y0 / 65536) (h1 : y1 < 256) : FnOk Tryz.prog 255 [V64 x] [] (Vi (bl x)) [] := by
  obtain ⟨e, he⟩ : ∃ e, y1 % 256 = e := ⟨_, rfl⟩
  have he2 : y1 = e := by omega
  have hb : bl x = 48 + bl e := by
    have h1 : x / 2 ^ 48 = e := by simp only [show (2 : Nat) ^ 48 = 281474976710656 from by decide]; omega
    rw [bl_shift 48 x (by rw [h1]; omega), h1]; omega
  rw [hb]
  have hr := List.map_inj_left.1 (ln6 x y0 y1) e (by rw [List.mem_range]; omega)
  exact runV_ok (M := mL) okL 100 _ _ _ _ _ (runS_run hr (hold_eq (n_conv_u8 he) (hold_eq (n_geF (by omega)) (hold_eq (n_shr 65536 (by decide) ey1.symm) (hold_eq (n_geT (by omega)) (hold_eq (n_shr 4294967296 (by decide) ey0.symm) (hold_eq (n_geT (by omega)) hold_nil)))))))
theorem ln7 (x y0 y1 y2 : Nat) : ((List.range 256).map fun e => runS Tryz.prog mL 100 255 [V64 x] [] ([(2, bT), (1, V64 y0), (3, bT), (1, V64 y1), (5, bT), (1, V64 y2), (6, V8 e)], [])) = (List.range 256).map fun e => some (Vi (56 + bl e), [], ([], [(C8 y2, V8 e), (R64 y1 8, V64 y2), (geQ y1 256, bT), (R64 y0 16, V64 y1), (geQ y0 65536, bT), (R64 x 32, V64 y0), (geQ x 4294967296, bT)])) := by kernel_rfl
theorem ln7_ok {x y0 y1 y2 : Nat} (hx : x < 18446744073709551616) (h4 : 4294967296 ≤ x) (ey0 : y0 = x / 4294967296) (h2 : 65536 ≤ y0) (ey1 : y1 = y0 / 65536) (h1 : 256 ≤ y1) (ey2 : y2 = y1 / 256) : FnOk Tryz.prog 255 [V64 x] [] (Vi (bl x)) [] := by
  obtain ⟨e, he⟩ : ∃ e, y2 % 256 = e := ⟨_, rfl⟩
  have he2 : y2 = e := by omega
  have hb : bl x = 56 + bl e := by
    have h1 : x / 2 ^ 56 = e := by simp only [show (2 : Nat) ^ 56 = 72057594037927936 from by decide]; omega
    rw [bl_shift 56 x (by rw [h1]; omega), h1]; omega
  rw [hb]
  have hr := List.map_inj_left.1 (ln7 x y0 y1 y2) e (by rw [List.mem_range]; omega)
  exact runV_ok (M := mL) okL 100 _ _ _ _ _ (runS_run hr (hold_eq (n_conv_u8 he) (hold_eq (n_shr 256 (by decide) ey2.symm) (hold_eq (n_geT (by omega)) (hold_eq (n_shr 65536 (by decide) ey1.symm) (hold_eq (n_geT (by omega)) (hold_eq (n_shr 4294967296 (by decide) ey0.symm) (hold_eq (n_geT (by omega)) hold_nil))))))))
theorem len_ok (x : Nat) (hx : x < 18446744073709551616) : FnOk Tryz.prog 255 [V64 x] [] (Vi (bl x)) [] := by
  rcases Nat.lt_or_ge x 4294967296 with g4 | g4
  · skip
    rcases Nat.lt_or_ge x 65536 with g2 | g2
    · skip
      rcases Nat.lt_or_ge x 256 with g1 | g1
      · skip
        exact ln0_ok hx g4 g2 g1
      · obtain ⟨z0, f1⟩ : ∃ q, q = x / 256 := ⟨_, rfl⟩
        exact ln1_ok hx g4 g2 g1 f1
    · obtain ⟨z0, f2⟩ : ∃ q, q = x / 65536 := ⟨_, rfl⟩
      rcases Nat.lt_or_ge z0 256 with g1 | g1
      · skip
        exact ln2_ok hx g4 g2 f2 g1
      · obtain ⟨z1, f1⟩ : ∃ q, q = z0 / 256 := ⟨_, rfl⟩
        exact ln3_ok hx g4 g2 f2 g1 f1
  · obtain ⟨z0, f4⟩ : ∃ q, q = x / 4294967296 := ⟨_, rfl⟩
    rcases Nat.lt_or_ge z0 65536 with g2 | g2
    · skip
      rcases Nat.lt_or_ge z0 256 with g1 | g1
      · skip
        exact ln4_ok hx g4 f4 g2 g1
      · obtain ⟨z1, f1⟩ : ∃ q, q = z0 / 256 := ⟨_, rfl⟩
        exact ln5_ok hx g4 f4 g2 g1 f1
    · obtain ⟨z1, f2⟩ : ∃ q, q = z0 / 65536 := ⟨_, rfl⟩
      rcases Nat.lt_or_ge z1 256 with g1 | g1
      · skip
        exact ln6_ok hx g4 f4 g2 f2 g1
      · obtain ⟨z2, f1⟩ : ∃ q, q = z1 / 256 := ⟨_, rfl⟩
        exact ln7_ok hx g4 f4 g2 f2 g1 f1
theorem len_con {args : List AV} {hp hp' : List Blk} {r : AV} (h : bitsV args hp = some (r, hp')) : FnOk Tryz.prog 255 args hp r hp' := bitsV_ok len_ok h
end Ln
end Go.Proofs.YtlemialjfnbchaaGreat
