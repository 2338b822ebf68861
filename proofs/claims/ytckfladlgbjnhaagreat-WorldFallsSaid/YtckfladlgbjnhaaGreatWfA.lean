/- WorldFalls: what is known; the law's own mode. -/
import Derived.Test.YtckfladlgbjnhaaGreatWfU0
import Derived.Test.YtckfladlgbjnhaaGreatWfU1
import Derived.Test.YtckfladlgbjnhaaGreatVmG
namespace Go.Proofs.YtckfladlgbjnhaaGreat
open Go Go.Vm
set_option maxRecDepth 100000
noncomputable def WfTabU : TabH := [(54,WfQ54_0 ++ WfQ54_1 ++ WfQ54_2 ++ WfQ54_3 ++ WfQ54_4 ++ WfQ54_5 ++ WfQ54_6 ++ WfQ54_7 ++ WfQ54_8 ++ WfQ54_9 ++ WfQ54_10 ++ WfQ54_11 ++ WfQ54_12),(53,WfQ53_0)]
theorem WfTabU_ok : UOk Tryz.prog WfTabU := (uok_cons (qok_app (qok_app (qok_app (qok_app (qok_app (qok_app (qok_app (qok_app (qok_app (qok_app (qok_app (qok_app WfQ54_0_ok WfQ54_1_ok) WfQ54_2_ok) WfQ54_3_ok) WfQ54_4_ok) WfQ54_5_ok) WfQ54_6_ok) WfQ54_7_ok) WfQ54_8_ok) WfQ54_9_ok) WfQ54_10_ok) WfQ54_11_ok) WfQ54_12_ok) (uok_cons WfQ53_0_ok uok_nil))
theorem Wfknown : Vm.runU Tryz.prog WfTab5 WfTabU mWf 100000 52 [] [] = some (.p (.bool true), []) := by kernel_rfl
theorem WfknownOk : FnOk Tryz.prog 52 [] [] (.p (.bool true)) [] := runU_ok WfTab5_ok WfTabU_ok mWf_ok 100000 _ _ _ _ _ Wfknown
/-- the law's own mode: what it calls, run at once -/
def WfknownV (args : List AV) (hp : List Blk) : Option (AV × List Blk) := match args, hp with
  | [], [] => some (.p (.bool true), [])
  | _, _ => none
noncomputable def mWfr : Vm.Mode := ⟨fun _ => true, fun f => cond (Nat.beq f 52) (some WfknownV) (some fun args hp => Vm.runOvU WfTab5 WfTabU mWf (Vm.runU Tryz.prog WfTab5 WfTabU mWf 100000) f args hp)⟩
theorem okWfr (f : FuncId) (K : List AV → List Blk → Option (AV × List Blk)) (h : mWfr.ov f = some K) (args : List AV) (hp : List Blk) (r : AV) (hp' : List Blk) (k : K args hp = some (r, hp')) : FnOk Tryz.prog f args hp r hp' := by
  unfold mWfr at h
  simp only at h
  cases hf : Nat.beq f 52 with
  | true =>
    rw [hf] at h
    obtain rfl := Nat.eq_of_beq_eq_true hf
    cases h
    unfold WfknownV at k
    split at k
    · cases k; exact WfknownOk
    · cases k
  | false =>
    rw [hf] at h
    cases h
    exact runOvU_ok WfTab5_ok WfTabU_ok mWf_ok (runU_ok WfTab5_ok WfTabU_ok mWf_ok 100000) _ _ _ _ _ k
/-- what the model reckons of a bit that is kept -/
abbrev wfInt (keep : Int) (i : Nat) : Int := IntKind.wrap .u8 (Int.ofNat (BitVec.ofInt 8 (Int.fdiv keep (2 ^ (min (Int.toNat (Int.ofNat i)) IntKind.u8.bits))) &&& BitVec.ofInt 8 (Int.ofNat 1)).toNat)
abbrev wfBit (keep : Int) (i : Nat) : AV := .p (.int .u8 (wfInt keep i))
theorem wfInt_nat : ∀ m < 256, ∀ i < 3, wfInt (Int.ofNat m) i = 0 ∨ wfInt (Int.ofNat m) i = 1 := by decide +kernel
theorem wfInt_ok {keep : Int} (h : 0 ≤ keep ∧ keep ≤ 255) (i : Nat) (hi : i < 3) : wfInt keep i = 0 ∨ wfInt keep i = 1 := by
  obtain ⟨m, rfl⟩ : ∃ m : Nat, keep = Int.ofNat m := ⟨keep.toNat, by simp only [Int.ofNat_eq_natCast]; omega⟩
  exact wfInt_nat m (by simp only [Int.ofNat_eq_natCast] at h; omega) i hi
end Go.Proofs.YtckfladlgbjnhaaGreat
