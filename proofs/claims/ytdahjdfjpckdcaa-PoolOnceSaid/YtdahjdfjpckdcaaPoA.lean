/- PoolOnce: contracts in force; what is known. -/
import Derived.Test.YtdahjdfjpckdcaaVmZ
import Derived.Test.YtdahjdfjpckdcaaStA
import Derived.Test.YtdahjdfjpckdcaaSsA
import Derived.Test.YtdahjdfjpckdcaaPnA
namespace Go.Proofs.Ytdahjdfjpckdcaa
open Go Go.Vm
set_option maxRecDepth 100000
noncomputable def mPo : Vm.Mode := ⟨fun _ => true, fun f => cond (Nat.beq f 145) (some sumV) (cond (Nat.beq f 149) (some sumV) (cond (Nat.beq f 71) (some (sortedKV 118)) (cond (Nat.beq f 62) (some pinnedV) none)))⟩
theorem okPo (f : FuncId) (K : List AV → List Blk → Option (AV × List Blk)) (h : mPo.ov f = some K) (args : List AV) (hp : List Blk) (r : AV) (hp' : List Blk) (k : K args hp = some (r, hp')) : FnOk Try.prog f args hp r hp' := by
  rcases ov_cond h with ⟨rfl, rfl⟩ | h
  · exact Sm.su_con k
  rcases ov_cond h with ⟨rfl, rfl⟩ | h
  · exact Sm.sw_con k
  rcases ov_cond h with ⟨rfl, rfl⟩ | h
  · exact sorted_con Try.sortedA_kit k
  rcases ov_cond h with ⟨rfl, rfl⟩ | h
  · exact Pn.pinned_con k
  cases h
theorem known_po : runQ Try.prog mPo 100000 25 [] [] = some (.p (.bool true), []) := by kernel_rfl
theorem known25 : FnOk Try.prog 25 [] [] (.p (.bool true)) [] := runQ_ok okPo 100000 _ _ _ _ _ known_po
/-- the law's own mode: what it calls, run at once -/
def knownV (args : List AV) (hp : List Blk) : Option (AV × List Blk) := match args, hp with
  | [], [] => some (.p (.bool true), [])
  | _, _ => none
noncomputable def mPr : Vm.Mode := ⟨fun _ => true, fun f => cond (Nat.beq f 25) (some knownV) (some fun args hp => runQ Try.prog mPo 100000 f args hp)⟩
theorem okPr (f : FuncId) (K : List AV → List Blk → Option (AV × List Blk)) (h : mPr.ov f = some K) (args : List AV) (hp : List Blk) (r : AV) (hp' : List Blk) (k : K args hp = some (r, hp')) : FnOk Try.prog f args hp r hp' := by
  unfold mPr at h
  simp only at h
  cases hf : Nat.beq f 25 with
  | true =>
    rw [hf] at h
    obtain rfl := Nat.eq_of_beq_eq_true hf
    cases h
    unfold knownV at k
    split at k
    · cases k; exact known25
    · cases k
  | false =>
    rw [hf] at h
    cases h
    exact runQ_ok okPo 100000 _ _ _ _ _ k
end Go.Proofs.Ytdahjdfjpckdcaa
