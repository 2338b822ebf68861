/- ServeLeaves: what is known; the law's own mode. -/
import Derived.Test.YtlemialjfnbchaaGreatSlT0
import Derived.Test.YtlemialjfnbchaaGreatVmG
import Derived.Test.YtlemialjfnbchaaGreatVmNt

namespace Go.Proofs.YtlemialjfnbchaaGreat
open Go Go.Vm
set_option maxRecDepth 100000
theorem Slknown : Vm.runT Tryz.prog SlTab4 mSl 100000 49 [] [] = some (.p (.bool true), []) := by kernel_rfl
theorem SlknownOk : FnOk Tryz.prog 49 [] [] (.p (.bool true)) [] := runT_ok SlTab4_ok mSl_ok 100000 _ _ _ _ _ Slknown
/-- the law's own mode: what it calls, run at once -/
def SlknownV (args : List AV) (hp : List Blk) : Option (AV × List Blk) := match args, hp with
  | [], [] => some (.p (.bool true), [])
  | _, _ => none
noncomputable def mSlr : Vm.Mode := ⟨fun _ => true, fun f => cond (Nat.beq f 49) (some SlknownV) (match mSl.ov f with | some F => some F | none => some fun args hp => Vm.runT Tryz.prog SlTab4 mSl 100000 f args hp)⟩
theorem okSlr (f : FuncId) (K : List AV → List Blk → Option (AV × List Blk)) (h : mSlr.ov f = some K) (args : List AV) (hp : List Blk) (r : AV) (hp' : List Blk) (k : K args hp = some (r, hp')) : FnOk Tryz.prog f args hp r hp' := by
  unfold mSlr at h
  simp only at h
  cases hf : Nat.beq f 49 with
  | true =>
    rw [hf] at h
    obtain rfl := Nat.eq_of_beq_eq_true hf
    cases h
    unfold SlknownV at k
    split at k
    · cases k; exact SlknownOk
    · cases k
  | false =>
    rw [hf, cond_false] at h
    split at h
    · rename_i F hF
      cases h
      exact mSl_ok f _ hF args hp r hp' k
    · cases h
      exact runT_ok SlTab4_ok mSl_ok 100000 _ _ _ _ _ k
/-- what the model reckons of a setting's last bit -/
abbrev NI (K : Int) : AV := .p (.int .i64 (IntKind.wrap .i64 (Int.ofNat (BitVec.ofInt 64 K &&& BitVec.ofInt 64 (Int.ofNat 1)).toNat)))
theorem NI_ok (K : Int) : NI K = .p (.int .i64 (Int.ofNat 0)) ∨ NI K = .p (.int .i64 (Int.ofNat 1)) := by
  have h : (BitVec.ofInt 64 K &&& BitVec.ofInt 64 (Int.ofNat 1)).toNat = (BitVec.ofInt 64 K).toNat % 2 := by
    rw [BitVec.toNat_and, show (BitVec.ofInt 64 (Int.ofNat 1)).toNat = 1 from by decide, Nat.and_one_is_mod]
  unfold NI
  rw [h]
  rcases Nat.mod_two_eq_zero_or_one (BitVec.ofInt 64 K).toNat with e | e <;> rw [e]
  · exact .inl rfl
  · exact .inr rfl
end Go.Proofs.YtlemialjfnbchaaGreat
