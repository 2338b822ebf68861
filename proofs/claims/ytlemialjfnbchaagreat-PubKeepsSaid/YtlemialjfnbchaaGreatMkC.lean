/- PubKeeps at any number, steps, keeping. Made by gn4.py. -/
import Derived.Test.YtlemialjfnbchaaGreatMkB0
import Derived.Test.YtlemialjfnbchaaGreatMkB1
import Derived.Test.YtlemialjfnbchaaGreatMkB2
import Derived.Test.YtlemialjfnbchaaGreatVmM
import Derived.Test.YtlemialjfnbchaaGreatRows
import Derived.ProofKit

namespace Go.Proofs.YtlemialjfnbchaaGreat
open Go Go.Vm
set_option maxRecDepth 100000
namespace Be
namespace Kp
theorem kp_nat {n : Int} (hn : in64 n) {q kp : Nat} (hkp : kp < 65536) : FnOk Tryz.prog 5 [V8 q, .p (.int .u16 (Int.ofNat kp)), wZ n] [] bT [] := by
  obtain ⟨i, r, hi, hr0, hr⟩ := @tmod9 n
  obtain ⟨z, hz⟩ : ∃ z, z = zigN n := ⟨_, rfl⟩
  obtain ⟨u, hu⟩ : ∃ u, u = ub i := ⟨_, rfl⟩
  obtain ⟨y, hy⟩ : ∃ y, y = yb i := ⟨_, rfl⟩
  have hzl : z < 18446744073709551616 := hz ▸ zig_lt hn
  have hyl : y < 17 := y_lt hi hy
  have hpl := @pgl_len z
  have hfl := @ftl_len z y
  have hpb := @pgl_b z hzl
  have hfb := @ftl_b z y hyl hzl
  have hyb : ∀ x ∈ ylE y, x < 256 := b_cons (by decide) (b_cons (by decide) (b_cons (by decide) (b_cons (by omega) (b_cons (by decide) b_nil))))
  have hB : outF (fB (arg n) []) = .tup [.lst (pgl z).length (u8A (pgl z)), wZ (pgw z), wZ 0] := by have e := b_n hn; rw [← hz] at e; exact e.trans best_o
  have hM := mkk hi hu hy hpl.1 hpl.2 hB
  have hP := put_ft hn hz hi hr hu hy
  have hG := get_ft hn hz hi hr hu hy hr0
  obtain ⟨f, hf⟩ : ∃ f : Nat → Nat, f = fun j => (wrapL (pgl z)).getD j 0 := ⟨_, rfl⟩
  obtain ⟨g, hg⟩ : ∃ g : Nat → Nat, g = fun j => (wrapL (ftl z y)).getD j 0 := ⟨_, rfl⟩
  obtain ⟨h, hh⟩ : ∃ h : Nat → Nat, h = fun j => (wrapL (ylE y)).getD j 0 := ⟨_, rfl⟩
  have hWn : outF (wrF [.lst (pgl z).length (u8A (pgl z))] []) = .tup [.lst 64 (u8A (wr f)), wZ 0] := by rw [hf, wr_get (wrapL_len (by omega))]; exact telF_eq (wrap_pg hzl) (wrapV_eq hpb)
  have hWp : outF (wrF [.lst 5 (u8A (ylE y))] []) = .tup [.lst 64 (u8A (wr h)), wZ 0] := by rw [hh, wr_get (wrapL_len (Nat.le_of_ble_eq_true rfl))]; exact telF_eq (wrap_yl hyl) (wrapV_eq hyb)
  have hWf : outF (wrF [.lst (ftl z y).length (u8A (ftl z y))] []) = .tup [.lst 64 (u8A (wr g)), wZ 0] := by rw [hg, wr_get (wrapL_len (by omega))]; exact telF_eq (wrap_ft hyl hzl) (wrapV_eq hfb)
  have hUf : outF (unF [.lst 64 (u8A (wr g))] []) = .tup [.lst (ftl z y).length (u8A (ftl z y)), wZ 0] := by rw [hg, wr_get (wrapL_len (by omega))]; exact telF_eq (unw_ft hyl hzl) (unwV_eq (by omega) hfb)
  have hFg : outF (fgF n u (ftl z y).length (u8A (ftl z y)) [.lst (ftl z y).length (u8A (ftl z y))] []) = ftR n u := fgF_eq (ftl_kB z y)
  have ok := fun {orc cs} (hr : runS Tryz.prog (m1 n u y (pgl z).length (ftl z y).length (u8A (pgl z)) (u8A (ftl z y))) 100000 5 [V8 q, .p (.int .u16 (Int.ofNat kp)), wZ n] [] (orc, []) = some (bT, [], ([], cs))) (hc : Hold cs) => runV_ok (M := m1 n u y (pgl z).length (ftl z y).length (u8A (pgl z)) (u8A (ftl z y))) (m1_ok hM hP hG) 100000 _ _ _ _ _ (runS_run hr hc)
  have hq : q % 7 = 0 ∨ q % 7 = 1 ∨ q % 7 = 2 ∨ q % 7 = 3 ∨ q % 7 = 4 ∨ q % 7 = 5 ∨ q % 7 = 6 := by omega
  have b0 : kp % 2 = 0 ∨ kp % 2 = 1 := by omega
  have b1 : kp / 2 % 2 = 0 ∨ kp / 2 % 2 = 1 := by omega
  have b2 : kp / 4 % 2 = 0 ∨ kp / 4 % 2 = 1 := by omega
  rcases hq with hq | hq | hq | hq | hq | hq | hq
  · exact ok (kp00_p n r u y q kp _ _ _ _ f g h) (kp00_h hi hu hr hr0 hkp hfl.1 hfl.2 hpl.1 hpl.2 hWn hWp hWf hUf hFg hq)
  · rcases b0 with hb0 | hb0 <;> rcases b1 with hb1 | hb1 <;> rcases b2 with hb2 | hb2
    · exact ok (kp10_p n r u y q kp _ _ _ _ f g h) (kp10_h hi hu hr hr0 hkp hfl.1 hfl.2 hpl.1 hpl.2 hWn hWp hWf hUf hFg hq hb0 hb1 hb2)
    · exact ok (kp14_p n r u y q kp _ _ _ _ f g h) (kp14_h hi hu hr hr0 hkp hfl.1 hfl.2 hpl.1 hpl.2 hWn hWp hWf hUf hFg hq hb0 hb1 hb2)
    · exact ok (kp12_p n r u y q kp _ _ _ _ f g h) (kp12_h hi hu hr hr0 hkp hfl.1 hfl.2 hpl.1 hpl.2 hWn hWp hWf hUf hFg hq hb0 hb1 hb2)
    · exact ok (kp16_p n r u y q kp _ _ _ _ f g h) (kp16_h hi hu hr hr0 hkp hfl.1 hfl.2 hpl.1 hpl.2 hWn hWp hWf hUf hFg hq hb0 hb1 hb2)
    · exact ok (kp11_p n r u y q kp _ _ _ _ f g h) (kp11_h hi hu hr hr0 hkp hfl.1 hfl.2 hpl.1 hpl.2 hWn hWp hWf hUf hFg hq hb0 hb1 hb2)
    · exact ok (kp15_p n r u y q kp _ _ _ _ f g h) (kp15_h hi hu hr hr0 hkp hfl.1 hfl.2 hpl.1 hpl.2 hWn hWp hWf hUf hFg hq hb0 hb1 hb2)
    · exact ok (kp13_p n r u y q kp _ _ _ _ f g h) (kp13_h hi hu hr hr0 hkp hfl.1 hfl.2 hpl.1 hpl.2 hWn hWp hWf hUf hFg hq hb0 hb1 hb2)
    · exact ok (kp17_p n r u y q kp _ _ _ _ f g h) (kp17_h hi hu hr hr0 hkp hfl.1 hfl.2 hpl.1 hpl.2 hWn hWp hWf hUf hFg hq hb0 hb1 hb2)
  · exact ok (kp20_p n r u y q kp _ _ _ _ f g h) (kp20_h hi hu hr hr0 hkp hfl.1 hfl.2 hpl.1 hpl.2 hWn hWp hWf hUf hFg hq)
  · rcases b0 with hb0 | hb0
    · exact ok (kp30_p n r u y q kp _ _ _ _ f g h) (kp30_h hi hu hr hr0 hkp hfl.1 hfl.2 hpl.1 hpl.2 hWn hWp hWf hUf hFg hq hb0)
    · exact ok (kp31_p n r u y q kp _ _ _ _ f g h) (kp31_h hi hu hr hr0 hkp hfl.1 hfl.2 hpl.1 hpl.2 hWn hWp hWf hUf hFg hq hb0)
  · exact ok (kp40_p n r u y q kp _ _ _ _ f g h) (kp40_h hi hu hr hr0 hkp hfl.1 hfl.2 hpl.1 hpl.2 hWn hWp hWf hUf hFg hq)
  · rcases b0 with hb0 | hb0
    · exact ok (kp50_p n r u y q kp _ _ _ _ f g h) (kp50_h hi hu hr hr0 hkp hfl.1 hfl.2 hpl.1 hpl.2 hWn hWp hWf hUf hFg hq hb0)
    · exact ok (kp51_p n r u y q kp _ _ _ _ f g h) (kp51_h hi hu hr hr0 hkp hfl.1 hfl.2 hpl.1 hpl.2 hWn hWp hWf hUf hFg hq hb0)
  · exact ok (kp60_p n r u y q kp _ _ _ _ f g h) (kp60_h hi hu hr hr0 hkp hfl.1 hfl.2 hpl.1 hpl.2 hWn hWp hWf hUf hFg hq)
theorem kp_ok {q : Int} (hq : IntKind.u8.min ≤ q ∧ q ≤ IntKind.u8.max) {k : Int} (hk : IntKind.u16.min ≤ k ∧ k ≤ IntKind.u16.max) {n : Int} (hn : IntKind.i64.min ≤ n ∧ n ≤ IntKind.i64.max) : FnOk Tryz.prog 5 [.p (.int .u8 q), .p (.int .u16 k), .p (.int .i64 n)] [] (.p (.bool true)) [] := by
  have hn' : -9223372036854775808 ≤ n ∧ n ≤ 9223372036854775807 := hn
  have hq' : 0 ≤ q ∧ q ≤ 255 := hq
  have hk' : 0 ≤ k ∧ k ≤ 65535 := hk
  obtain ⟨q', rfl⟩ : ∃ m : Nat, q = Int.ofNat m := ⟨q.toNat, by simp only [Int.ofNat_eq_natCast]; omega⟩
  obtain ⟨k', rfl⟩ : ∃ m : Nat, k = Int.ofNat m := ⟨k.toNat, by simp only [Int.ofNat_eq_natCast]; omega⟩
  simp only [Int.ofNat_eq_natCast] at hk'
  exact kp_nat ⟨hn'.1, by omega⟩ (by omega)
end Kp
end Be
end Go.Proofs.YtlemialjfnbchaaGreat

namespace Go.Proofs.YtlemialjfnbchaaGreat
open Go Go.Vm Go.ChangeShapes Go.WideShapes Go.ChangeAt Go.RowKit
set_option maxRecDepth 100000
theorem closure5 : Tryz.prog.closure 5 = [5, 28, 29, 63, 120, 68, 44, 79, 84, 86, 147, 146, 203, 256, 239, 148, 206, 207, 259, 294, 273, 303, 324, 337, 338, 325, 340, 339, 349, 307, 295, 221, 272, 171, 131, 192, 224, 274, 225, 275, 226, 276, 130, 260, 261, 65, 121, 88, 186, 185, 81, 122, 187, 92, 93, 153, 208, 154, 31, 89, 90, 91, 30, 82, 143, 80, 142, 83, 144, 204, 257, 222, 205, 168, 258, 163, 292, 268, 255, 165, 215, 293, 316, 315, 332, 318, 317, 333, 320, 319, 334, 344, 335, 336, 347, 352, 346, 350, 355, 351, 202, 254, 356, 357, 353, 358, 365, 359, 288, 289, 360, 366, 367, 368, 361, 362, 363, 364, 345, 348, 354, 321, 104, 169, 223, 170, 172, 145, 87, 150, 149, 151, 152, 85, 32, 36, 40, 95, 107, 39, 96, 132, 193, 243, 155, 164, 209, 70, 133, 194, 195, 244, 196, 156, 210, 211, 262, 296, 297, 217, 298, 271, 302, 157, 212, 264, 160, 214, 263, 299, 213, 265, 266, 158, 159, 41, 97, 161, 98, 99, 162, 37, 38] := by kernel_rfl
theorem inPlace5 : Tryz.prog.inPlace 5 = Rows.pubKeepsRow.inPlace := by
  unfold Program.inPlace
  rw [closure5]
  kernel_rfl
theorem unfollowed5 : Tryz.prog.unfollowed 5 = Rows.pubKeepsRow.unfollowed := by
  unfold Program.unfollowed
  rw [closure5]
  kernel_rfl
theorem recurses5 : Tryz.prog.recurses 5 = Rows.pubKeepsRow.recurses := by
  unfold Program.recurses
  rw [unfollowed5]
  kernel_rfl
theorem varsNamed5 : Tryz.prog.varsNamed 5 = Rows.pubKeepsRow.named := by
  unfold Program.varsNamed
  rw [closure5]
  kernel_rfl
theorem joined5 : joinedFacts Tryz.prog 5 Tryz.f5 Rows.pubKeepsSpec Rows.pubKeepsRow = true := by
  unfold joinedFacts
  rw [inPlace5, unfollowed5, recurses5, varsNamed5]
  kernel_rfl
theorem own_knob5 : ownKnob Tryz.prog.godebug = none := by kernel_rfl
theorem laid_out5 : laidOutB Tryz.prog = true := by kernel_rfl

set_option maxRecDepth 100000 in
theorem pubKeeps_lifted (os : Os) (started : os.Started) (H : Type) (enc : TypeId × Value → H) :
    ReturnsInHanded {} Tryz.checked os 5 .any (Rows.pubKeepsSpec.pre6 enc Tryz.prog Tryz.f5 Rows.pubKeepsRow.domain false) (Rows.pubKeepsSpec.post enc Tryz.prog Tryz.f5 false true false false) := by
  refine returnsInHanded_of_change (C := Tryz.checked) own_knob5 started (by kernel_rfl) Tryz.func5
    (ChangeSpec.witness6 (enc := enc) (C := Tryz.checked) false ⟨#[], #[.int .u8 0, .int .u16 0, .int .i64 0], []⟩ 8 (by kernel_rfl) (by kernel_rfl) (by kernel_rfl) (by kernel_rfl)) ?_
  intro W base args ds gs before hval0 hW hcnd _
  have hval : ∀ (j : Nat) t v, Tryz.f5.params[j]? = some t → args[j]? = some v → Value.okWide Tryz.prog W .any base t v := hval0
  have hW' := hW
  obtain ⟨p, q, hA0, hV, rfl, hfz, hnd⟩ := hW
  have hA : DataW.TrodAll enc Tryz.prog W 0 (fun _ => true) true Tryz.f5.params.toList args.toList ds p := hA0
  rw [Tryz.params5] at hA hval
  obtain ⟨v0, v1, v2, d0, d1, d2, p0, p1, p2, rfl, rfl, rfl, h0, h1, h2⟩ := trodAll_three hA
  obtain ⟨rfl, rfl⟩ := trodVars_none hV
  obtain ⟨x0, rfl, rfl, rfl, w0⟩ := open_int Tryz.underlying5 (hval 0 5 v0 rfl rfl) h0
  obtain ⟨x1, rfl, rfl, rfl, w1⟩ := open_int Tryz.underlying76 (hval 1 76 v1 rfl rfl) h1
  obtain ⟨x2, rfl, rfl, rfl, w2⟩ := open_int Tryz.underlying2 (hval 2 2 v2 rfl rfl) h2
  refine (calls_true (Be.Kp.kp_ok (wf_in w0) (wf_in w1) (wf_in w2)) (rl_p (rl_p (rl_p (rl_nil))))).mono fun e W' ⟨he, hb⟩ => ?_
  subst he
  exact ⟨_, rfl, post_true laid_out5 hW' hb (by kernel_rfl) rfl rfl Tryz.underlying4 rfl⟩

theorem pubKeeps : Rows.PubKeepsSaid :=
  OpenClaim.holds_of_wide 5 Tryz.f5 rfl rfl rfl rfl rfl rfl rfl ⟨rfl, rfl, rfl, rfl, rfl⟩ rfl rfl rfl rfl rfl (by kernel_rfl) Tryz.func5 joined5
    (of_decide_eq_true (by kernel_rfl)) (by unfold Func.isWrapper; first | (rw [if_pos (by decide +kernel)]; kernel_rfl) | (rw [if_neg (by decide +kernel)]; exact ⟨rfl, rfl⟩))
    (fun os started H enc _ => pubKeeps_lifted os started H enc)
#print axioms pubKeeps
end Go.Proofs.YtlemialjfnbchaaGreat
