/- page.Wrap and page.Unwrap at rows of one block. Made by gn4.py. -/
import Derived.Test.YtlemialjfnbchaaGreatMoA

namespace Go.Proofs.YtlemialjfnbchaaGreat
open Go Go.Vm
set_option maxRecDepth 100000
namespace Be
noncomputable def mWr : Vm.Mode := ⟨byMask 57896044618658920464162232821980448298161205217810393175413208097707989663744, fun f => cond (Nat.beq f 186) (some sumV) (cond (byMask 49039857307708443470125560860379725621607266030435958784 f) (some fun args hp => Vm.runC Tryz.prog mo0 100000 f args hp) none)⟩
theorem mWr_ok (f : FuncId) (K : List AV → List Blk → Option (AV × List Blk)) (h : mWr.ov f = some K) (args : List AV) (hp : List Blk) (r : AV) (hp' : List Blk) (k : K args hp = some (r, hp')) : FnOk Tryz.prog f args hp r hp' := by
  rcases ov_cond h with ⟨rfl, rfl⟩ | h
  · exact Sm.su_con k
  cases hm : byMask 49039857307708443470125560860379725621607266030435958784 f with
  | false => rw [hm] at h; cases h
  | true =>
    rw [hm] at h
    cases h
    exact runC_ok mo0_ok 100000 _ _ _ _ _ k
noncomputable def mUn : Vm.Mode := ⟨byMask 57896044618658920464162232821980448298161205217810393175413208097707989663744, fun f => cond (Nat.beq f 186) (some sumV) (cond (byMask 25108406941546723066232193434300696495237409215672720818176 f) (some fun args hp => Vm.runC Tryz.prog mo0 100000 f args hp) none)⟩
theorem mUn_ok (f : FuncId) (K : List AV → List Blk → Option (AV × List Blk)) (h : mUn.ov f = some K) (args : List AV) (hp : List Blk) (r : AV) (hp' : List Blk) (k : K args hp = some (r, hp')) : FnOk Tryz.prog f args hp r hp' := by
  rcases ov_cond h with ⟨rfl, rfl⟩ | h
  · exact Sm.su_con k
  cases hm : byMask 25108406941546723066232193434300696495237409215672720818176 f with
  | false => rw [hm] at h; cases h
  | true =>
    rw [hm] at h
    cases h
    exact runC_ok mo0_ok 100000 _ _ _ _ _ k
def oWr (c : Nat) : List (Nat × AV) := [(24, .ifc 4294967293 (V32 c)), (5, V8 (c % 256)), (1, V32 (c / 256)), (0, V8 (c / 256 % 256)), (1, V32 (c / 65536)), (0, V8 (c / 65536 % 256)), (1, V32 (c / 16777216)), (0, V8 (c / 16777216 % 256))]
noncomputable def nWr (c : Nat) (lp : List Nat) : List (AV × AV) := [(C8 (c / 16777216), V8 (c / 16777216 % 256)), (R32 c 24, V32 (c / 16777216)), (C8 (c / 65536), V8 (c / 65536 % 256)), (R32 c 16, V32 (c / 65536)), (C8 (c / 256), V8 (c / 256 % 256)), (R32 c 8, V32 (c / 256)), (C8 c, V8 (c % 256)), (SU 60 lp, V32 c)]
theorem hWr {c : Nat} {lp : List Nat} (g : 60 = lp.length) (qc : ∀ x ∈ lp, x < 256) (ec : c = crc lp) : Hold (nWr c lp) := by
  have kc : c < 4294967296 := by rw [ec]; exact crc_lt qc
  exact (hold_eq (n_conv_u8 (by omega)) (hold_eq (n_shr 16777216 (by decide) (by omega)) (hold_eq (n_conv_u8 (by omega)) (hold_eq (n_shr 65536 (by decide) (by omega)) (hold_eq (n_conv_u8 (by omega)) (hold_eq (n_shr 256 (by decide) (by omega)) (hold_eq (n_conv_u8 (by omega)) (hold_eq (n_crc qc g (by omega) ec) hold_nil))))))))
def oUn (c : Nat) : List (Nat × AV) := [(32, V32 (c % 256)), (5, V32 (c / 256 % 256)), (0, V32 (c / 256 % 256 * 256)), (0, V32 (c % 65536)), (5, V32 (c / 65536 % 256)), (0, V32 (c / 65536 % 256 * 65536)), (0, V32 (c % 16777216)), (5, V32 (c / 16777216 % 256)), (0, V32 (c / 16777216 % 256 * 16777216)), (0, V32 c), (23, .ifc 4294967293 (V32 c)), (1, bF)]
noncomputable def nUn (c : Nat) (lp : List Nat) : List (AV × AV) := [(neQ c c, bF), (SU 60 lp, V32 c), (O32 (c % 16777216) (c / 16777216 % 256 * 16777216), V32 c), (L32 (c / 16777216 % 256) 24, V32 (c / 16777216 % 256 * 16777216)), (C32 (c / 16777216 % 256), V32 (c / 16777216 % 256)), (O32 (c % 65536) (c / 65536 % 256 * 65536), V32 (c % 16777216)), (L32 (c / 65536 % 256) 16, V32 (c / 65536 % 256 * 65536)), (C32 (c / 65536 % 256), V32 (c / 65536 % 256)), (O32 (c % 256) (c / 256 % 256 * 256), V32 (c % 65536)), (L32 (c / 256 % 256) 8, V32 (c / 256 % 256 * 256)), (C32 (c / 256 % 256), V32 (c / 256 % 256)), (C32 (c % 256), V32 (c % 256))]
theorem hUn {c : Nat} {lp : List Nat} (g : 60 = lp.length) (qc : ∀ x ∈ lp, x < 256) (ec : c = crc lp) : Hold (nUn c lp) := by
  have kc : c < 4294967296 := by rw [ec]; exact crc_lt qc
  exact (hold_eq (n_neF (by omega)) (hold_eq (n_crc qc g (by omega) ec) (hold_eq (n_or_u32 24 (c / 16777216 % 256) (by omega) (by omega) (by omega) (by omega)) (hold_eq (n_shl_u32 16777216 (by decide) (by omega)) (hold_eq (n_conv_u32 (by omega)) (hold_eq (n_or_u32 16 (c / 65536 % 256) (by omega) (by omega) (by omega) (by omega)) (hold_eq (n_shl_u32 65536 (by decide) (by omega)) (hold_eq (n_conv_u32 (by omega)) (hold_eq (n_or_u32 8 (c / 256 % 256) (by omega) (by omega) (by omega) (by omega)) (hold_eq (n_shl_u32 256 (by decide) (by omega)) (hold_eq (n_conv_u32 (by omega)) (hold_eq (n_conv_u32 (by omega)) hold_nil))))))))))))
abbrev RWr : AV := .tup [.ref 0 1 0 64, wZ 0]
def HWr (c : Nat) (lp : List Nat) : List Blk := [{ cells := u8A (put4 c ++ lp), esz := 1, gen := 1, row := true, ro := false }]
abbrev RUn (k : Nat) : AV := .tup [.ref 0 0 0 k, wZ 0]
def HUn (l : List Nat) : List Blk := [{ cells := u8A l, esz := 1, gen := 0, row := true, ro := false }]
theorem wrapO {k : Nat} {l : List Nat} (hl : l.length ≤ 59) (hb : ∀ x ∈ l, x < 256) (run : ∀ c, runS Tryz.prog mWr 100000 121 [.lst k (u8A l)] [] (oWr c, []) = some (RWr, HWr c (padL l), ([], nWr c (padL l))))
    (fr : ∀ c, Vm.frzR (some (RWr, HWr c (padL l))) = some (.tup [.lst 64 (u8A (put4 c ++ padL l)), wZ 0], [])) : FnOk Tryz.prog 121 [.lst k (u8A l)] [] (.tup [.lst 64 (u8A (wrapL l)), wZ 0]) [] := by
  refine FnOk.frzR (x := some (RWr, HWr (crc (padL l)) (padL l))) (fun r hp e => ?_) (fr _)
  cases e
  exact runV_ok (M := mWr) mWr_ok 100000 _ _ _ _ _ (runS_run (run _) (hWr (padL_len hl).symm (padL_b hl hb) rfl))
theorem unwO {k : Nat} {l : List Nat} (hl : l.length ≤ 59) (hb : ∀ x ∈ l, x < 256) (run : ∀ c, runS Tryz.prog mUn 100000 133 [.lst 64 (u8A (put4 c ++ padL l))] [] (oUn c, []) = some (RUn k, HUn l, ([], nUn c (padL l))))
    (fr : Vm.frzR (some (RUn k, HUn l)) = some (.tup [.lst k (u8A l), wZ 0], [])) : FnOk Tryz.prog 133 [.lst 64 (u8A (wrapL l))] [] (.tup [.lst k (u8A l), wZ 0]) [] := by
  refine FnOk.frzR (x := some (RUn k, HUn l)) (fun r hp e => ?_) fr
  cases e
  exact runV_ok (M := mUn) mUn_ok 100000 _ _ _ _ _ (runS_run (run (crc (padL l))) (hUn (padL_len hl).symm (padL_b hl hb) rfl))
theorem w_pgE1 (z : Nat) (c : Nat) : runS Tryz.prog mWr 100000 121 [.lst 4 (u8A (pgE1 z))] [] (oWr c, []) = some (RWr, HWr c (padL (pgE1 z)), ([], nWr c (padL (pgE1 z)))) := by kernel_rfl
theorem f_pgE1 (z : Nat) (c : Nat) : Vm.frzR (some (RWr, HWr c (padL (pgE1 z)))) = some (.tup [.lst 64 (u8A (put4 c ++ padL (pgE1 z))), wZ 0], []) := by kernel_rfl
theorem u_pgE1 (z : Nat) (c : Nat) : runS Tryz.prog mUn 100000 133 [.lst 64 (u8A (put4 c ++ padL (pgE1 z)))] [] (oUn c, []) = some (RUn 4, HUn (pgE1 z), ([], nUn c (padL (pgE1 z)))) := by kernel_rfl
theorem w_pgE2 (z : Nat) (c : Nat) : runS Tryz.prog mWr 100000 121 [.lst 5 (u8A (pgE2 z))] [] (oWr c, []) = some (RWr, HWr c (padL (pgE2 z)), ([], nWr c (padL (pgE2 z)))) := by kernel_rfl
theorem f_pgE2 (z : Nat) (c : Nat) : Vm.frzR (some (RWr, HWr c (padL (pgE2 z)))) = some (.tup [.lst 64 (u8A (put4 c ++ padL (pgE2 z))), wZ 0], []) := by kernel_rfl
theorem u_pgE2 (z : Nat) (c : Nat) : runS Tryz.prog mUn 100000 133 [.lst 64 (u8A (put4 c ++ padL (pgE2 z)))] [] (oUn c, []) = some (RUn 5, HUn (pgE2 z), ([], nUn c (padL (pgE2 z)))) := by kernel_rfl
theorem w_pgE3 (z : Nat) (c : Nat) : runS Tryz.prog mWr 100000 121 [.lst 6 (u8A (pgE3 z))] [] (oWr c, []) = some (RWr, HWr c (padL (pgE3 z)), ([], nWr c (padL (pgE3 z)))) := by kernel_rfl
theorem f_pgE3 (z : Nat) (c : Nat) : Vm.frzR (some (RWr, HWr c (padL (pgE3 z)))) = some (.tup [.lst 64 (u8A (put4 c ++ padL (pgE3 z))), wZ 0], []) := by kernel_rfl
theorem u_pgE3 (z : Nat) (c : Nat) : runS Tryz.prog mUn 100000 133 [.lst 64 (u8A (put4 c ++ padL (pgE3 z)))] [] (oUn c, []) = some (RUn 6, HUn (pgE3 z), ([], nUn c (padL (pgE3 z)))) := by kernel_rfl
theorem w_pgE4 (z : Nat) (c : Nat) : runS Tryz.prog mWr 100000 121 [.lst 7 (u8A (pgE4 z))] [] (oWr c, []) = some (RWr, HWr c (padL (pgE4 z)), ([], nWr c (padL (pgE4 z)))) := by kernel_rfl
theorem f_pgE4 (z : Nat) (c : Nat) : Vm.frzR (some (RWr, HWr c (padL (pgE4 z)))) = some (.tup [.lst 64 (u8A (put4 c ++ padL (pgE4 z))), wZ 0], []) := by kernel_rfl
theorem u_pgE4 (z : Nat) (c : Nat) : runS Tryz.prog mUn 100000 133 [.lst 64 (u8A (put4 c ++ padL (pgE4 z)))] [] (oUn c, []) = some (RUn 7, HUn (pgE4 z), ([], nUn c (padL (pgE4 z)))) := by kernel_rfl
theorem w_pgE5 (z : Nat) (c : Nat) : runS Tryz.prog mWr 100000 121 [.lst 8 (u8A (pgE5 z))] [] (oWr c, []) = some (RWr, HWr c (padL (pgE5 z)), ([], nWr c (padL (pgE5 z)))) := by kernel_rfl
theorem f_pgE5 (z : Nat) (c : Nat) : Vm.frzR (some (RWr, HWr c (padL (pgE5 z)))) = some (.tup [.lst 64 (u8A (put4 c ++ padL (pgE5 z))), wZ 0], []) := by kernel_rfl
theorem u_pgE5 (z : Nat) (c : Nat) : runS Tryz.prog mUn 100000 133 [.lst 64 (u8A (put4 c ++ padL (pgE5 z)))] [] (oUn c, []) = some (RUn 8, HUn (pgE5 z), ([], nUn c (padL (pgE5 z)))) := by kernel_rfl
theorem w_pgE6 (z : Nat) (c : Nat) : runS Tryz.prog mWr 100000 121 [.lst 9 (u8A (pgE6 z))] [] (oWr c, []) = some (RWr, HWr c (padL (pgE6 z)), ([], nWr c (padL (pgE6 z)))) := by kernel_rfl
theorem f_pgE6 (z : Nat) (c : Nat) : Vm.frzR (some (RWr, HWr c (padL (pgE6 z)))) = some (.tup [.lst 64 (u8A (put4 c ++ padL (pgE6 z))), wZ 0], []) := by kernel_rfl
theorem u_pgE6 (z : Nat) (c : Nat) : runS Tryz.prog mUn 100000 133 [.lst 64 (u8A (put4 c ++ padL (pgE6 z)))] [] (oUn c, []) = some (RUn 9, HUn (pgE6 z), ([], nUn c (padL (pgE6 z)))) := by kernel_rfl
theorem w_pgE7 (z : Nat) (c : Nat) : runS Tryz.prog mWr 100000 121 [.lst 10 (u8A (pgE7 z))] [] (oWr c, []) = some (RWr, HWr c (padL (pgE7 z)), ([], nWr c (padL (pgE7 z)))) := by kernel_rfl
theorem f_pgE7 (z : Nat) (c : Nat) : Vm.frzR (some (RWr, HWr c (padL (pgE7 z)))) = some (.tup [.lst 64 (u8A (put4 c ++ padL (pgE7 z))), wZ 0], []) := by kernel_rfl
theorem u_pgE7 (z : Nat) (c : Nat) : runS Tryz.prog mUn 100000 133 [.lst 64 (u8A (put4 c ++ padL (pgE7 z)))] [] (oUn c, []) = some (RUn 10, HUn (pgE7 z), ([], nUn c (padL (pgE7 z)))) := by kernel_rfl
theorem w_pgE8 (z : Nat) (c : Nat) : runS Tryz.prog mWr 100000 121 [.lst 11 (u8A (pgE8 z))] [] (oWr c, []) = some (RWr, HWr c (padL (pgE8 z)), ([], nWr c (padL (pgE8 z)))) := by kernel_rfl
theorem f_pgE8 (z : Nat) (c : Nat) : Vm.frzR (some (RWr, HWr c (padL (pgE8 z)))) = some (.tup [.lst 64 (u8A (put4 c ++ padL (pgE8 z))), wZ 0], []) := by kernel_rfl
theorem u_pgE8 (z : Nat) (c : Nat) : runS Tryz.prog mUn 100000 133 [.lst 64 (u8A (put4 c ++ padL (pgE8 z)))] [] (oUn c, []) = some (RUn 11, HUn (pgE8 z), ([], nUn c (padL (pgE8 z)))) := by kernel_rfl
theorem w_pgE9 (z : Nat) (c : Nat) : runS Tryz.prog mWr 100000 121 [.lst 12 (u8A (pgE9 z))] [] (oWr c, []) = some (RWr, HWr c (padL (pgE9 z)), ([], nWr c (padL (pgE9 z)))) := by kernel_rfl
theorem f_pgE9 (z : Nat) (c : Nat) : Vm.frzR (some (RWr, HWr c (padL (pgE9 z)))) = some (.tup [.lst 64 (u8A (put4 c ++ padL (pgE9 z))), wZ 0], []) := by kernel_rfl
theorem u_pgE9 (z : Nat) (c : Nat) : runS Tryz.prog mUn 100000 133 [.lst 64 (u8A (put4 c ++ padL (pgE9 z)))] [] (oUn c, []) = some (RUn 12, HUn (pgE9 z), ([], nUn c (padL (pgE9 z)))) := by kernel_rfl
theorem w_pgE10 (z : Nat) (c : Nat) : runS Tryz.prog mWr 100000 121 [.lst 12 (u8A (pgE10 z))] [] (oWr c, []) = some (RWr, HWr c (padL (pgE10 z)), ([], nWr c (padL (pgE10 z)))) := by kernel_rfl
theorem f_pgE10 (z : Nat) (c : Nat) : Vm.frzR (some (RWr, HWr c (padL (pgE10 z)))) = some (.tup [.lst 64 (u8A (put4 c ++ padL (pgE10 z))), wZ 0], []) := by kernel_rfl
theorem u_pgE10 (z : Nat) (c : Nat) : runS Tryz.prog mUn 100000 133 [.lst 64 (u8A (put4 c ++ padL (pgE10 z)))] [] (oUn c, []) = some (RUn 12, HUn (pgE10 z), ([], nUn c (padL (pgE10 z)))) := by kernel_rfl
theorem w_ftE1 (z y : Nat) (c : Nat) : runS Tryz.prog mWr 100000 121 [.lst 39 (u8A (ftE1 z y))] [] (oWr c, []) = some (RWr, HWr c (padL (ftE1 z y)), ([], nWr c (padL (ftE1 z y)))) := by kernel_rfl
theorem f_ftE1 (z y : Nat) (c : Nat) : Vm.frzR (some (RWr, HWr c (padL (ftE1 z y)))) = some (.tup [.lst 64 (u8A (put4 c ++ padL (ftE1 z y))), wZ 0], []) := by kernel_rfl
theorem u_ftE1 (z y : Nat) (c : Nat) : runS Tryz.prog mUn 100000 133 [.lst 64 (u8A (put4 c ++ padL (ftE1 z y)))] [] (oUn c, []) = some (RUn 39, HUn (ftE1 z y), ([], nUn c (padL (ftE1 z y)))) := by kernel_rfl
theorem w_ftE2 (z y : Nat) (c : Nat) : runS Tryz.prog mWr 100000 121 [.lst 41 (u8A (ftE2 z y))] [] (oWr c, []) = some (RWr, HWr c (padL (ftE2 z y)), ([], nWr c (padL (ftE2 z y)))) := by kernel_rfl
theorem f_ftE2 (z y : Nat) (c : Nat) : Vm.frzR (some (RWr, HWr c (padL (ftE2 z y)))) = some (.tup [.lst 64 (u8A (put4 c ++ padL (ftE2 z y))), wZ 0], []) := by kernel_rfl
theorem u_ftE2 (z y : Nat) (c : Nat) : runS Tryz.prog mUn 100000 133 [.lst 64 (u8A (put4 c ++ padL (ftE2 z y)))] [] (oUn c, []) = some (RUn 41, HUn (ftE2 z y), ([], nUn c (padL (ftE2 z y)))) := by kernel_rfl
theorem w_ftE3 (z y : Nat) (c : Nat) : runS Tryz.prog mWr 100000 121 [.lst 43 (u8A (ftE3 z y))] [] (oWr c, []) = some (RWr, HWr c (padL (ftE3 z y)), ([], nWr c (padL (ftE3 z y)))) := by kernel_rfl
theorem f_ftE3 (z y : Nat) (c : Nat) : Vm.frzR (some (RWr, HWr c (padL (ftE3 z y)))) = some (.tup [.lst 64 (u8A (put4 c ++ padL (ftE3 z y))), wZ 0], []) := by kernel_rfl
theorem u_ftE3 (z y : Nat) (c : Nat) : runS Tryz.prog mUn 100000 133 [.lst 64 (u8A (put4 c ++ padL (ftE3 z y)))] [] (oUn c, []) = some (RUn 43, HUn (ftE3 z y), ([], nUn c (padL (ftE3 z y)))) := by kernel_rfl
theorem w_ftE4 (z y : Nat) (c : Nat) : runS Tryz.prog mWr 100000 121 [.lst 45 (u8A (ftE4 z y))] [] (oWr c, []) = some (RWr, HWr c (padL (ftE4 z y)), ([], nWr c (padL (ftE4 z y)))) := by kernel_rfl
theorem f_ftE4 (z y : Nat) (c : Nat) : Vm.frzR (some (RWr, HWr c (padL (ftE4 z y)))) = some (.tup [.lst 64 (u8A (put4 c ++ padL (ftE4 z y))), wZ 0], []) := by kernel_rfl
theorem u_ftE4 (z y : Nat) (c : Nat) : runS Tryz.prog mUn 100000 133 [.lst 64 (u8A (put4 c ++ padL (ftE4 z y)))] [] (oUn c, []) = some (RUn 45, HUn (ftE4 z y), ([], nUn c (padL (ftE4 z y)))) := by kernel_rfl
theorem w_ftE5 (z y : Nat) (c : Nat) : runS Tryz.prog mWr 100000 121 [.lst 47 (u8A (ftE5 z y))] [] (oWr c, []) = some (RWr, HWr c (padL (ftE5 z y)), ([], nWr c (padL (ftE5 z y)))) := by kernel_rfl
theorem f_ftE5 (z y : Nat) (c : Nat) : Vm.frzR (some (RWr, HWr c (padL (ftE5 z y)))) = some (.tup [.lst 64 (u8A (put4 c ++ padL (ftE5 z y))), wZ 0], []) := by kernel_rfl
theorem u_ftE5 (z y : Nat) (c : Nat) : runS Tryz.prog mUn 100000 133 [.lst 64 (u8A (put4 c ++ padL (ftE5 z y)))] [] (oUn c, []) = some (RUn 47, HUn (ftE5 z y), ([], nUn c (padL (ftE5 z y)))) := by kernel_rfl
theorem w_ftE6 (z y : Nat) (c : Nat) : runS Tryz.prog mWr 100000 121 [.lst 49 (u8A (ftE6 z y))] [] (oWr c, []) = some (RWr, HWr c (padL (ftE6 z y)), ([], nWr c (padL (ftE6 z y)))) := by kernel_rfl
theorem f_ftE6 (z y : Nat) (c : Nat) : Vm.frzR (some (RWr, HWr c (padL (ftE6 z y)))) = some (.tup [.lst 64 (u8A (put4 c ++ padL (ftE6 z y))), wZ 0], []) := by kernel_rfl
theorem u_ftE6 (z y : Nat) (c : Nat) : runS Tryz.prog mUn 100000 133 [.lst 64 (u8A (put4 c ++ padL (ftE6 z y)))] [] (oUn c, []) = some (RUn 49, HUn (ftE6 z y), ([], nUn c (padL (ftE6 z y)))) := by kernel_rfl
theorem w_ftE7 (z y : Nat) (c : Nat) : runS Tryz.prog mWr 100000 121 [.lst 51 (u8A (ftE7 z y))] [] (oWr c, []) = some (RWr, HWr c (padL (ftE7 z y)), ([], nWr c (padL (ftE7 z y)))) := by kernel_rfl
theorem f_ftE7 (z y : Nat) (c : Nat) : Vm.frzR (some (RWr, HWr c (padL (ftE7 z y)))) = some (.tup [.lst 64 (u8A (put4 c ++ padL (ftE7 z y))), wZ 0], []) := by kernel_rfl
theorem u_ftE7 (z y : Nat) (c : Nat) : runS Tryz.prog mUn 100000 133 [.lst 64 (u8A (put4 c ++ padL (ftE7 z y)))] [] (oUn c, []) = some (RUn 51, HUn (ftE7 z y), ([], nUn c (padL (ftE7 z y)))) := by kernel_rfl
theorem w_ftE8 (z y : Nat) (c : Nat) : runS Tryz.prog mWr 100000 121 [.lst 53 (u8A (ftE8 z y))] [] (oWr c, []) = some (RWr, HWr c (padL (ftE8 z y)), ([], nWr c (padL (ftE8 z y)))) := by kernel_rfl
theorem f_ftE8 (z y : Nat) (c : Nat) : Vm.frzR (some (RWr, HWr c (padL (ftE8 z y)))) = some (.tup [.lst 64 (u8A (put4 c ++ padL (ftE8 z y))), wZ 0], []) := by kernel_rfl
theorem u_ftE8 (z y : Nat) (c : Nat) : runS Tryz.prog mUn 100000 133 [.lst 64 (u8A (put4 c ++ padL (ftE8 z y)))] [] (oUn c, []) = some (RUn 53, HUn (ftE8 z y), ([], nUn c (padL (ftE8 z y)))) := by kernel_rfl
theorem w_ftE9 (z y : Nat) (c : Nat) : runS Tryz.prog mWr 100000 121 [.lst 55 (u8A (ftE9 z y))] [] (oWr c, []) = some (RWr, HWr c (padL (ftE9 z y)), ([], nWr c (padL (ftE9 z y)))) := by kernel_rfl
theorem f_ftE9 (z y : Nat) (c : Nat) : Vm.frzR (some (RWr, HWr c (padL (ftE9 z y)))) = some (.tup [.lst 64 (u8A (put4 c ++ padL (ftE9 z y))), wZ 0], []) := by kernel_rfl
theorem u_ftE9 (z y : Nat) (c : Nat) : runS Tryz.prog mUn 100000 133 [.lst 64 (u8A (put4 c ++ padL (ftE9 z y)))] [] (oUn c, []) = some (RUn 55, HUn (ftE9 z y), ([], nUn c (padL (ftE9 z y)))) := by kernel_rfl
theorem w_ftE10 (z y : Nat) (c : Nat) : runS Tryz.prog mWr 100000 121 [.lst 57 (u8A (ftE10 z y))] [] (oWr c, []) = some (RWr, HWr c (padL (ftE10 z y)), ([], nWr c (padL (ftE10 z y)))) := by kernel_rfl
theorem f_ftE10 (z y : Nat) (c : Nat) : Vm.frzR (some (RWr, HWr c (padL (ftE10 z y)))) = some (.tup [.lst 64 (u8A (put4 c ++ padL (ftE10 z y))), wZ 0], []) := by kernel_rfl
theorem u_ftE10 (z y : Nat) (c : Nat) : runS Tryz.prog mUn 100000 133 [.lst 64 (u8A (put4 c ++ padL (ftE10 z y)))] [] (oUn c, []) = some (RUn 57, HUn (ftE10 z y), ([], nUn c (padL (ftE10 z y)))) := by kernel_rfl
theorem w_ylE (y : Nat) (c : Nat) : runS Tryz.prog mWr 100000 121 [.lst 5 (u8A (ylE y))] [] (oWr c, []) = some (RWr, HWr c (padL (ylE y)), ([], nWr c (padL (ylE y)))) := by kernel_rfl
theorem f_ylE (y : Nat) (c : Nat) : Vm.frzR (some (RWr, HWr c (padL (ylE y)))) = some (.tup [.lst 64 (u8A (put4 c ++ padL (ylE y))), wZ 0], []) := by kernel_rfl
theorem u_ylE (y : Nat) (c : Nat) : runS Tryz.prog mUn 100000 133 [.lst 64 (u8A (put4 c ++ padL (ylE y)))] [] (oUn c, []) = some (RUn 5, HUn (ylE y), ([], nUn c (padL (ylE y)))) := by kernel_rfl
theorem w_slE (c : Nat) : runS Tryz.prog mWr 100000 121 [.lst 5 (u8A (slE))] [] (oWr c, []) = some (RWr, HWr c (padL (slE)), ([], nWr c (padL (slE)))) := by kernel_rfl
theorem f_slE (c : Nat) : Vm.frzR (some (RWr, HWr c (padL (slE)))) = some (.tup [.lst 64 (u8A (put4 c ++ padL (slE))), wZ 0], []) := by kernel_rfl
theorem u_slE (c : Nat) : runS Tryz.prog mUn 100000 133 [.lst 64 (u8A (put4 c ++ padL (slE)))] [] (oUn c, []) = some (RUn 5, HUn (slE), ([], nUn c (padL (slE)))) := by kernel_rfl
theorem w_ofE (c : Nat) : runS Tryz.prog mWr 100000 121 [.lst 12 (u8A (ofE))] [] (oWr c, []) = some (RWr, HWr c (padL (ofE)), ([], nWr c (padL (ofE)))) := by kernel_rfl
theorem f_ofE (c : Nat) : Vm.frzR (some (RWr, HWr c (padL (ofE)))) = some (.tup [.lst 64 (u8A (put4 c ++ padL (ofE))), wZ 0], []) := by kernel_rfl
theorem u_ofE (c : Nat) : runS Tryz.prog mUn 100000 133 [.lst 64 (u8A (put4 c ++ padL (ofE)))] [] (oUn c, []) = some (RUn 12, HUn (ofE), ([], nUn c (padL (ofE)))) := by kernel_rfl
theorem wrap_pg {z : Nat} (hzl : z < 18446744073709551616) : FnOk Tryz.prog 121 [.lst (pgl z).length (u8A (pgl z))] [] (.tup [.lst 64 (u8A (wrapL (pgl z))), wZ 0]) [] := by
  rcases Nat.lt_or_ge z 128 with h | h
  · rw [pgl_1 h]; exact wrapO (Nat.le_of_ble_eq_true rfl) (pgE1_b h) (w_pgE1 z) (f_pgE1 z)
  rcases Nat.lt_or_ge z 16384 with h | h
  · rw [pgl_2 (by omega) h]; exact wrapO (Nat.le_of_ble_eq_true rfl) (pgE2_b (by omega) h) (w_pgE2 z) (f_pgE2 z)
  rcases Nat.lt_or_ge z 2097152 with h | h
  · rw [pgl_3 (by omega) h]; exact wrapO (Nat.le_of_ble_eq_true rfl) (pgE3_b (by omega) h) (w_pgE3 z) (f_pgE3 z)
  rcases Nat.lt_or_ge z 268435456 with h | h
  · rw [pgl_4 (by omega) h]; exact wrapO (Nat.le_of_ble_eq_true rfl) (pgE4_b (by omega) h) (w_pgE4 z) (f_pgE4 z)
  rcases Nat.lt_or_ge z 34359738368 with h | h
  · rw [pgl_5 (by omega) h]; exact wrapO (Nat.le_of_ble_eq_true rfl) (pgE5_b (by omega) h) (w_pgE5 z) (f_pgE5 z)
  rcases Nat.lt_or_ge z 4398046511104 with h | h
  · rw [pgl_6 (by omega) h]; exact wrapO (Nat.le_of_ble_eq_true rfl) (pgE6_b (by omega) h) (w_pgE6 z) (f_pgE6 z)
  rcases Nat.lt_or_ge z 562949953421312 with h | h
  · rw [pgl_7 (by omega) h]; exact wrapO (Nat.le_of_ble_eq_true rfl) (pgE7_b (by omega) h) (w_pgE7 z) (f_pgE7 z)
  rcases Nat.lt_or_ge z 72057594037927936 with h | h
  · rw [pgl_8 (by omega) h]; exact wrapO (Nat.le_of_ble_eq_true rfl) (pgE8_b (by omega) h) (w_pgE8 z) (f_pgE8 z)
  rcases Nat.lt_or_ge z 9223372036854775808 with h | h
  · rw [pgl_9 (by omega) h]; exact wrapO (Nat.le_of_ble_eq_true rfl) (pgE9_b (by omega) h) (w_pgE9 z) (f_pgE9 z)
  rw [pgl_10 h]; exact wrapO (Nat.le_of_ble_eq_true rfl) (pgE10_b h hzl) (w_pgE10 z) (f_pgE10 z)
theorem unw_pg {z : Nat} (hzl : z < 18446744073709551616) : FnOk Tryz.prog 133 [.lst 64 (u8A (wrapL (pgl z)))] [] (.tup [.lst (pgl z).length (u8A (pgl z)), wZ 0]) [] := by
  rcases Nat.lt_or_ge z 128 with h | h
  · rw [pgl_1 h]; exact unwO (Nat.le_of_ble_eq_true rfl) (pgE1_b h) (u_pgE1 z) rfl
  rcases Nat.lt_or_ge z 16384 with h | h
  · rw [pgl_2 (by omega) h]; exact unwO (Nat.le_of_ble_eq_true rfl) (pgE2_b (by omega) h) (u_pgE2 z) rfl
  rcases Nat.lt_or_ge z 2097152 with h | h
  · rw [pgl_3 (by omega) h]; exact unwO (Nat.le_of_ble_eq_true rfl) (pgE3_b (by omega) h) (u_pgE3 z) rfl
  rcases Nat.lt_or_ge z 268435456 with h | h
  · rw [pgl_4 (by omega) h]; exact unwO (Nat.le_of_ble_eq_true rfl) (pgE4_b (by omega) h) (u_pgE4 z) rfl
  rcases Nat.lt_or_ge z 34359738368 with h | h
  · rw [pgl_5 (by omega) h]; exact unwO (Nat.le_of_ble_eq_true rfl) (pgE5_b (by omega) h) (u_pgE5 z) rfl
  rcases Nat.lt_or_ge z 4398046511104 with h | h
  · rw [pgl_6 (by omega) h]; exact unwO (Nat.le_of_ble_eq_true rfl) (pgE6_b (by omega) h) (u_pgE6 z) rfl
  rcases Nat.lt_or_ge z 562949953421312 with h | h
  · rw [pgl_7 (by omega) h]; exact unwO (Nat.le_of_ble_eq_true rfl) (pgE7_b (by omega) h) (u_pgE7 z) rfl
  rcases Nat.lt_or_ge z 72057594037927936 with h | h
  · rw [pgl_8 (by omega) h]; exact unwO (Nat.le_of_ble_eq_true rfl) (pgE8_b (by omega) h) (u_pgE8 z) rfl
  rcases Nat.lt_or_ge z 9223372036854775808 with h | h
  · rw [pgl_9 (by omega) h]; exact unwO (Nat.le_of_ble_eq_true rfl) (pgE9_b (by omega) h) (u_pgE9 z) rfl
  rw [pgl_10 h]; exact unwO (Nat.le_of_ble_eq_true rfl) (pgE10_b h hzl) (u_pgE10 z) rfl
theorem wrap_ft {z y : Nat} (hyl : y < 17) (hzl : z < 18446744073709551616) : FnOk Tryz.prog 121 [.lst (ftl z y).length (u8A (ftl z y))] [] (.tup [.lst 64 (u8A (wrapL (ftl z y))), wZ 0]) [] := by
  rcases Nat.lt_or_ge z 128 with h | h
  · rw [ftl_1 h]; exact wrapO (Nat.le_of_ble_eq_true rfl) (ftE1_b hyl h) (w_ftE1 z y) (f_ftE1 z y)
  rcases Nat.lt_or_ge z 16384 with h | h
  · rw [ftl_2 (by omega) h]; exact wrapO (Nat.le_of_ble_eq_true rfl) (ftE2_b hyl (by omega) h) (w_ftE2 z y) (f_ftE2 z y)
  rcases Nat.lt_or_ge z 2097152 with h | h
  · rw [ftl_3 (by omega) h]; exact wrapO (Nat.le_of_ble_eq_true rfl) (ftE3_b hyl (by omega) h) (w_ftE3 z y) (f_ftE3 z y)
  rcases Nat.lt_or_ge z 268435456 with h | h
  · rw [ftl_4 (by omega) h]; exact wrapO (Nat.le_of_ble_eq_true rfl) (ftE4_b hyl (by omega) h) (w_ftE4 z y) (f_ftE4 z y)
  rcases Nat.lt_or_ge z 34359738368 with h | h
  · rw [ftl_5 (by omega) h]; exact wrapO (Nat.le_of_ble_eq_true rfl) (ftE5_b hyl (by omega) h) (w_ftE5 z y) (f_ftE5 z y)
  rcases Nat.lt_or_ge z 4398046511104 with h | h
  · rw [ftl_6 (by omega) h]; exact wrapO (Nat.le_of_ble_eq_true rfl) (ftE6_b hyl (by omega) h) (w_ftE6 z y) (f_ftE6 z y)
  rcases Nat.lt_or_ge z 562949953421312 with h | h
  · rw [ftl_7 (by omega) h]; exact wrapO (Nat.le_of_ble_eq_true rfl) (ftE7_b hyl (by omega) h) (w_ftE7 z y) (f_ftE7 z y)
  rcases Nat.lt_or_ge z 72057594037927936 with h | h
  · rw [ftl_8 (by omega) h]; exact wrapO (Nat.le_of_ble_eq_true rfl) (ftE8_b hyl (by omega) h) (w_ftE8 z y) (f_ftE8 z y)
  rcases Nat.lt_or_ge z 9223372036854775808 with h | h
  · rw [ftl_9 (by omega) h]; exact wrapO (Nat.le_of_ble_eq_true rfl) (ftE9_b hyl (by omega) h) (w_ftE9 z y) (f_ftE9 z y)
  rw [ftl_10 h]; exact wrapO (Nat.le_of_ble_eq_true rfl) (ftE10_b hyl h hzl) (w_ftE10 z y) (f_ftE10 z y)
theorem unw_ft {z y : Nat} (hyl : y < 17) (hzl : z < 18446744073709551616) : FnOk Tryz.prog 133 [.lst 64 (u8A (wrapL (ftl z y)))] [] (.tup [.lst (ftl z y).length (u8A (ftl z y)), wZ 0]) [] := by
  rcases Nat.lt_or_ge z 128 with h | h
  · rw [ftl_1 h]; exact unwO (Nat.le_of_ble_eq_true rfl) (ftE1_b hyl h) (u_ftE1 z y) rfl
  rcases Nat.lt_or_ge z 16384 with h | h
  · rw [ftl_2 (by omega) h]; exact unwO (Nat.le_of_ble_eq_true rfl) (ftE2_b hyl (by omega) h) (u_ftE2 z y) rfl
  rcases Nat.lt_or_ge z 2097152 with h | h
  · rw [ftl_3 (by omega) h]; exact unwO (Nat.le_of_ble_eq_true rfl) (ftE3_b hyl (by omega) h) (u_ftE3 z y) rfl
  rcases Nat.lt_or_ge z 268435456 with h | h
  · rw [ftl_4 (by omega) h]; exact unwO (Nat.le_of_ble_eq_true rfl) (ftE4_b hyl (by omega) h) (u_ftE4 z y) rfl
  rcases Nat.lt_or_ge z 34359738368 with h | h
  · rw [ftl_5 (by omega) h]; exact unwO (Nat.le_of_ble_eq_true rfl) (ftE5_b hyl (by omega) h) (u_ftE5 z y) rfl
  rcases Nat.lt_or_ge z 4398046511104 with h | h
  · rw [ftl_6 (by omega) h]; exact unwO (Nat.le_of_ble_eq_true rfl) (ftE6_b hyl (by omega) h) (u_ftE6 z y) rfl
  rcases Nat.lt_or_ge z 562949953421312 with h | h
  · rw [ftl_7 (by omega) h]; exact unwO (Nat.le_of_ble_eq_true rfl) (ftE7_b hyl (by omega) h) (u_ftE7 z y) rfl
  rcases Nat.lt_or_ge z 72057594037927936 with h | h
  · rw [ftl_8 (by omega) h]; exact unwO (Nat.le_of_ble_eq_true rfl) (ftE8_b hyl (by omega) h) (u_ftE8 z y) rfl
  rcases Nat.lt_or_ge z 9223372036854775808 with h | h
  · rw [ftl_9 (by omega) h]; exact unwO (Nat.le_of_ble_eq_true rfl) (ftE9_b hyl (by omega) h) (u_ftE9 z y) rfl
  rw [ftl_10 h]; exact unwO (Nat.le_of_ble_eq_true rfl) (ftE10_b hyl h hzl) (u_ftE10 z y) rfl
theorem wrap_yl {y : Nat} (hyl : y < 17) : FnOk Tryz.prog 121 [.lst 5 (u8A (ylE y))] [] (.tup [.lst 64 (u8A (wrapL (ylE y))), wZ 0]) [] := by
  exact wrapO (Nat.le_of_ble_eq_true rfl) (b_cons (by decide) (b_cons (by decide) (b_cons (by decide) (b_cons (by omega) (b_cons (by decide) b_nil))))) (w_ylE y) (f_ylE y)
theorem unw_yl {y : Nat} (hyl : y < 17) : FnOk Tryz.prog 133 [.lst 64 (u8A (wrapL (ylE y)))] [] (.tup [.lst 5 (u8A (ylE y)), wZ 0]) [] := by
  exact unwO (Nat.le_of_ble_eq_true rfl) (b_cons (by decide) (b_cons (by decide) (b_cons (by decide) (b_cons (by omega) (b_cons (by decide) b_nil))))) (u_ylE y) rfl
theorem wrap_sl  : FnOk Tryz.prog 121 [.lst 5 (u8A slE)] [] (.tup [.lst 64 (u8A (wrapL slE)), wZ 0]) [] := by
  exact wrapO (Nat.le_of_ble_eq_true rfl) (by decide) (w_slE) (f_slE)
theorem unw_sl  : FnOk Tryz.prog 133 [.lst 64 (u8A (wrapL slE))] [] (.tup [.lst 5 (u8A slE), wZ 0]) [] := by
  exact unwO (Nat.le_of_ble_eq_true rfl) (by decide) (u_slE) rfl
theorem wrap_of  : FnOk Tryz.prog 121 [.lst 12 (u8A ofE)] [] (.tup [.lst 64 (u8A (wrapL ofE)), wZ 0]) [] := by
  exact wrapO (Nat.le_of_ble_eq_true rfl) (by decide) (w_ofE) (f_ofE)
theorem unw_of  : FnOk Tryz.prog 133 [.lst 64 (u8A (wrapL ofE))] [] (.tup [.lst 12 (u8A ofE), wZ 0]) [] := by
  exact unwO (Nat.le_of_ble_eq_true rfl) (by decide) (u_ofE) rfl
end Be
end Go.Proofs.YtlemialjfnbchaaGreat
