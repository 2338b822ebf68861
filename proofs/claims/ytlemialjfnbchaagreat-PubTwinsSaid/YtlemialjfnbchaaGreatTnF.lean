/- PubTwins at any number and count of steps. Made by gn4.py. -/
import Derived.Test.YtlemialjfnbchaaGreatTnM

namespace Go.Proofs.YtlemialjfnbchaaGreat
open Go Go.Vm
set_option maxRecDepth 100000
namespace Be
namespace Tn
theorem tn_nat {n : Int} (hn : in64 n) {q : Nat} : FnOk Tryz.prog 4 [wZ n, V8 q] [] bT [] := by
  obtain ⟨i, r, hi, hr0, hr⟩ := @tmod9 n
  obtain ⟨z, hz⟩ : ∃ z, z = zigN n := ⟨_, rfl⟩
  obtain ⟨u, hu⟩ : ∃ u, u = ub i := ⟨_, rfl⟩
  obtain ⟨y, hy⟩ : ∃ y, y = yb i := ⟨_, rfl⟩
  have hzl : z < 18446744073709551616 := hz ▸ zig_lt hn
  have hyl : y < 17 := y_lt hi hy
  have hpl := @pgl_len z
  have hfl := @ftl_len z y
  have hpb := @pgl_b z hzl
  have hfb := @ftl_b z y hyl hzl
  have hyb : ∀ x ∈ ylE y, x < 256 := b_cons (by decide) (b_cons (by decide) (b_cons (by decide) (b_cons (by omega) (b_cons (by decide) b_nil))))
  have hB : outF (fB (arg n) []) = .tup [.lst (pgl z).length (u8A (pgl z)), wZ (pgw z), wZ 0] := by have e := b_n hn; rw [← hz] at e; exact e.trans best_o
  have hM := mkw hi hu hy hpl.1 hpl.2 hB
  have hP := put_ft hn hz hi hr hu hy
  obtain ⟨f, ef⟩ : ∃ f : Nat → Nat, f = fun j => (wrapL (pgl z)).getD j 0 := ⟨_, rfl⟩
  obtain ⟨g, eg⟩ : ∃ g : Nat → Nat, g = fun j => (wrapL (ftl z y)).getD j 0 := ⟨_, rfl⟩
  obtain ⟨h, eh⟩ : ∃ h : Nat → Nat, h = fun j => (wrapL (ylE y)).getD j 0 := ⟨_, rfl⟩
  have hf : ∀ j, f j < 256 := fun j => ef ▸ wr_b (by omega) hpb j
  have hg : ∀ j, g j < 256 := fun j => eg ▸ wr_b (by omega) hfb j
  have hh : ∀ j, h j < 256 := fun j => eh ▸ wr_b (Nat.le_of_ble_eq_true rfl) hyb j
  have hWn : outF (wrF [.lst (pgl z).length (u8A (pgl z))] []) = .tup [.lst 64 (u8A (wr f)), wZ 0] := by rw [ef, wr_get (wrapL_len (by omega))]; exact telF_eq (wrap_pg hzl) (wrapV_eq hpb)
  have hWp : outF (wrF [.lst 5 (u8A (ylE y))] []) = .tup [.lst 64 (u8A (wr h)), wZ 0] := by rw [eh, wr_get (wrapL_len (Nat.le_of_ble_eq_true rfl))]; exact telF_eq (wrap_yl hyl) (wrapV_eq hyb)
  have hWf : outF (wrF [.lst (ftl z y).length (u8A (ftl z y))] []) = .tup [.lst 64 (u8A (wr g)), wZ 0] := by rw [eg, wr_get (wrapL_len (by omega))]; exact telF_eq (wrap_ft hyl hzl) (wrapV_eq hfb)
  have ok := fun {orc cs} (hr : runS Tryz.prog (m1 n u y (pgl z).length (ftl z y).length (u8A (pgl z)) (u8A (ftl z y))) 100000 4 [wZ n, V8 q] [] (orc, []) = some (bT, [], ([], cs))) (hc : Hold cs) => runV_ok (M := m1 n u y (pgl z).length (ftl z y).length (u8A (pgl z)) (u8A (ftl z y))) (m1_ok hM hP) 100000 _ _ _ _ _ (runS_run hr hc)
  have hq : q % 6 = 0 ∨ q % 6 = 1 ∨ q % 6 = 2 ∨ q % 6 = 3 ∨ q % 6 = 4 ∨ q % 6 = 5 := by omega
  rcases hq with hq | hq | hq | hq | hq | hq
  · exact ok (tn0_p n r u y q _ _ _ _ f g h _ _) (tn0_h hi hu hr hr0 hfl.1 hfl.2 hWn hWp hWf hq (ls0_b hf hg hh) rfl (ls1_b hf hg hh) rfl)
  · exact ok (tn1_p n r u y q _ _ _ _ f g h _ _) (tn1_h hi hu hr hr0 hfl.1 hfl.2 hWn hWp hWf hq (ls2_b hf hg hh) rfl (ls1_b hf hg hh) rfl)
  · exact ok (tn2_p n r u y q _ _ _ _ f g h _ _) (tn2_h hi hu hr hr0 hfl.1 hfl.2 hWn hWp hWf hq (ls2_b hf hg hh) rfl (ls1_b hf hg hh) rfl)
  · exact ok (tn3_p n r u y q _ _ _ _ f g h _ _) (tn3_h hi hu hr hr0 hfl.1 hfl.2 hWn hWp hWf hq (ls3_b hf hg hh) rfl (ls1_b hf hg hh) rfl)
  · exact ok (tn4_p n r u y q _ _ _ _ f g h _ _) (tn4_h hi hu hr hr0 hfl.1 hfl.2 hWn hWp hWf hq (ls3_b hf hg hh) rfl (ls1_b hf hg hh) rfl)
  · exact ok (tn5_p n r u y q _ _ _ _ f g h _) (tn5_h hi hu hr hr0 hfl.1 hfl.2 hWn hWp hWf hq (ls1_b hf hg hh) rfl)
theorem tn_ok {n : Int} (hn : IntKind.i64.min ≤ n ∧ n ≤ IntKind.i64.max) {q : Int} (hq : IntKind.u8.min ≤ q ∧ q ≤ IntKind.u8.max) : FnOk Tryz.prog 4 [.p (.int .i64 n), .p (.int .u8 q)] [] (.p (.bool true)) [] := by
  have hn' : -9223372036854775808 ≤ n ∧ n ≤ 9223372036854775807 := hn
  have hq' : 0 ≤ q ∧ q ≤ 255 := hq
  obtain ⟨q', rfl⟩ : ∃ m : Nat, q = Int.ofNat m := ⟨q.toNat, by simp only [Int.ofNat_eq_natCast]; omega⟩
  exact tn_nat ⟨hn'.1, by omega⟩
end Tn
end Be
end Go.Proofs.YtlemialjfnbchaaGreat
