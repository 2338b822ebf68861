/- WorldHandles: what is known; the law's own mode. -/
import Derived.Test.YtckfladlgbjnhaaGreatWhT0
import Derived.Test.YtckfladlgbjnhaaGreatVmG
namespace Go.Proofs.YtckfladlgbjnhaaGreat
open Go Go.Vm
set_option maxRecDepth 100000
theorem known_wh : Vm.runT Tryz.prog WhTab5 mWh 100000 52 [] [] = some (.p (.bool true), []) := by kernel_rfl
theorem known52 : FnOk Tryz.prog 52 [] [] (.p (.bool true)) [] := runT_ok WhTab5_ok mWh_ok 100000 _ _ _ _ _ known_wh
/-- the law's own mode: what it calls, run at once -/
def knownV (args : List AV) (hp : List Blk) : Option (AV × List Blk) := match args, hp with
  | [], [] => some (.p (.bool true), [])
  | _, _ => none
noncomputable def mWr : Vm.Mode := ⟨fun _ => true, fun f => cond (Nat.beq f 52) (some knownV) (some fun args hp => Vm.runT Tryz.prog WhTab5 mWh 100000 f args hp)⟩
theorem okWr (f : FuncId) (K : List AV → List Blk → Option (AV × List Blk)) (h : mWr.ov f = some K) (args : List AV) (hp : List Blk) (r : AV) (hp' : List Blk) (k : K args hp = some (r, hp')) : FnOk Tryz.prog f args hp r hp' := by
  unfold mWr at h
  simp only at h
  cases hf : Nat.beq f 52 with
  | true =>
    rw [hf] at h
    obtain rfl := Nat.eq_of_beq_eq_true hf
    cases h
    unfold knownV at k
    split at k
    · cases k; exact known52
    · cases k
  | false =>
    rw [hf] at h
    cases h
    exact runT_ok WhTab5_ok mWh_ok 100000 _ _ _ _ _ k
end Go.Proofs.YtckfladlgbjnhaaGreat
