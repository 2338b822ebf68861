/- DayUnder: what is known; the law's own mode. -/
import Derived.Test.YtckfladlgbjnhaaGreatDuT1
import Derived.Test.YtckfladlgbjnhaaGreatVmG
namespace Go.Proofs.YtckfladlgbjnhaaGreat
open Go Go.Vm
set_option maxRecDepth 100000
theorem Duknown : Vm.runT Tryz.prog DuTab5 mDu 100000 57 [] [] = some (.p (.bool true), []) := by kernel_rfl
theorem DuknownOk : FnOk Tryz.prog 57 [] [] (.p (.bool true)) [] := runT_ok DuTab5_ok mDu_ok 100000 _ _ _ _ _ Duknown
/-- the law's own mode: what it calls, run at once -/
def DuknownV (args : List AV) (hp : List Blk) : Option (AV × List Blk) := match args, hp with
  | [], [] => some (.p (.bool true), [])
  | _, _ => none
noncomputable def mDur : Vm.Mode := ⟨fun _ => true, fun f => cond (Nat.beq f 57) (some DuknownV) (some fun args hp => Vm.runT Tryz.prog DuTab5 mDu 100000 f args hp)⟩
theorem okDur (f : FuncId) (K : List AV → List Blk → Option (AV × List Blk)) (h : mDur.ov f = some K) (args : List AV) (hp : List Blk) (r : AV) (hp' : List Blk) (k : K args hp = some (r, hp')) : FnOk Tryz.prog f args hp r hp' := by
  unfold mDur at h
  simp only at h
  cases hf : Nat.beq f 57 with
  | true =>
    rw [hf] at h
    obtain rfl := Nat.eq_of_beq_eq_true hf
    cases h
    unfold DuknownV at k
    split at k
    · cases k; exact DuknownOk
    · cases k
  | false =>
    rw [hf] at h
    cases h
    exact runT_ok DuTab5_ok mDu_ok 100000 _ _ _ _ _ k
end Go.Proofs.YtckfladlgbjnhaaGreat
