/- DayDown: what is known; the law's own mode. -/
import Derived.Test.YtckfladlgbjnhaaGreatDdU0
import Derived.Test.YtckfladlgbjnhaaGreatDdU1
import Derived.Test.YtckfladlgbjnhaaGreatVmG
namespace Go.Proofs.YtckfladlgbjnhaaGreat
open Go Go.Vm
set_option maxRecDepth 100000
noncomputable def DdTabU : TabH := [(54,DdQ54_0 ++ DdQ54_1 ++ DdQ54_2 ++ DdQ54_3 ++ DdQ54_4 ++ DdQ54_5 ++ DdQ54_6 ++ DdQ54_7 ++ DdQ54_8 ++ DdQ54_9 ++ DdQ54_10 ++ DdQ54_11 ++ DdQ54_12 ++ DdQ54_13 ++ DdQ54_14 ++ DdQ54_15 ++ DdQ54_16 ++ DdQ54_17 ++ DdQ54_18 ++ DdQ54_19 ++ DdQ54_20 ++ DdQ54_21),(53,DdQ53_0),(34,DdQ34_0 ++ DdQ34_1 ++ DdQ34_2 ++ DdQ34_3 ++ DdQ34_4 ++ DdQ34_5 ++ DdQ34_6 ++ DdQ34_7 ++ DdQ34_8 ++ DdQ34_9)]
theorem DdTabU_ok : UOk Tryz.prog DdTabU := (uok_cons (qok_app (qok_app (qok_app (qok_app (qok_app (qok_app (qok_app (qok_app (qok_app (qok_app (qok_app (qok_app (qok_app (qok_app (qok_app (qok_app (qok_app (qok_app (qok_app (qok_app (qok_app DdQ54_0_ok DdQ54_1_ok) DdQ54_2_ok) DdQ54_3_ok) DdQ54_4_ok) DdQ54_5_ok) DdQ54_6_ok) DdQ54_7_ok) DdQ54_8_ok) DdQ54_9_ok) DdQ54_10_ok) DdQ54_11_ok) DdQ54_12_ok) DdQ54_13_ok) DdQ54_14_ok) DdQ54_15_ok) DdQ54_16_ok) DdQ54_17_ok) DdQ54_18_ok) DdQ54_19_ok) DdQ54_20_ok) DdQ54_21_ok) (uok_cons DdQ53_0_ok (uok_cons (qok_app (qok_app (qok_app (qok_app (qok_app (qok_app (qok_app (qok_app (qok_app DdQ34_0_ok DdQ34_1_ok) DdQ34_2_ok) DdQ34_3_ok) DdQ34_4_ok) DdQ34_5_ok) DdQ34_6_ok) DdQ34_7_ok) DdQ34_8_ok) DdQ34_9_ok) uok_nil)))
theorem Ddknown : Vm.runU Tryz.prog DdTab5 DdTabU mDd 100000 57 [] [] = some (.p (.bool true), []) := by kernel_rfl
theorem DdknownOk : FnOk Tryz.prog 57 [] [] (.p (.bool true)) [] := runU_ok DdTab5_ok DdTabU_ok mDd_ok 100000 _ _ _ _ _ Ddknown
/-- the law's own mode: what it calls, run at once -/
def DdknownV (args : List AV) (hp : List Blk) : Option (AV × List Blk) := match args, hp with
  | [], [] => some (.p (.bool true), [])
  | _, _ => none
noncomputable def mDdr : Vm.Mode := ⟨fun _ => true, fun f => cond (Nat.beq f 57) (some DdknownV) (some fun args hp => Vm.runU Tryz.prog DdTab5 DdTabU mDd 100000 f args hp)⟩
theorem okDdr (f : FuncId) (K : List AV → List Blk → Option (AV × List Blk)) (h : mDdr.ov f = some K) (args : List AV) (hp : List Blk) (r : AV) (hp' : List Blk) (k : K args hp = some (r, hp')) : FnOk Tryz.prog f args hp r hp' := by
  unfold mDdr at h
  simp only at h
  cases hf : Nat.beq f 57 with
  | true =>
    rw [hf] at h
    obtain rfl := Nat.eq_of_beq_eq_true hf
    cases h
    unfold DdknownV at k
    split at k
    · cases k; exact DdknownOk
    · cases k
  | false =>
    rw [hf] at h
    cases h
    exact runU_ok DdTab5_ok DdTabU_ok mDd_ok 100000 _ _ _ _ _ k
end Go.Proofs.YtckfladlgbjnhaaGreat
