/- SkipExact: names. -/
import Derived.Test.YtdahjdfjpckdcaaMtA
import Derived.Test.YtdahjdfjpckdcaaLtH
namespace Go.Proofs.Ytdahjdfjpckdcaa
open Go Go.Vm
set_option maxRecDepth 100000
def mX (A : OvF) : Vm.Mode := ⟨fun _ => false, fun f => cond (Nat.beq f 15) (some oTrueK) (cond (Nat.beq f 17) (some A) (cond (Nat.beq f 19) (some oMay) (cond (Nat.beq f 21) (some oEval) none)))⟩
noncomputable abbrev xV (A : OvF) := orV Try.prog (mX A) 60
noncomputable abbrev xS (A : OvF) := orS Try.prog (mX A) 60
theorem okX {A : OvF} (hA : ∀ args hp r hp', A args hp = some (r, hp') → FnOk Try.prog 17 args hp r hp') (f : FuncId) (K : OvF) (h : (mX A).ov f = some K) (args : List AV) (hp : List Blk) (r : AV) (hp' : List Blk) (k : K args hp = some (r, hp')) : FnOk Try.prog f args hp r hp' := by
  rcases ov_cond h with ⟨rfl, rfl⟩ | h
  · exact of_trueK known15 k
  rcases ov_cond h with ⟨rfl, rfl⟩ | h
  · exact hA _ _ _ _ k
  rcases ov_cond h with ⟨rfl, rfl⟩ | h
  · exact of_may k
  rcases ov_cond h with ⟨rfl, rfl⟩ | h
  · exact of_eval k
  cases h
noncomputable def xe : Code := bodyOf Try.f5
noncomputable def xe1 : Code := cI (cI (cR (cL (cN 4 xe))))
noncomputable def xeR : Code := cN 9 xe
noncomputable def xe2 : Code := cI (cI (cR (cL xeR)))
theorem xe_eq : xe = seqs (first 4 xe) (.seq (.seq (cL (cL (cN 4 xe))) (.block 0 (.loop xe1))) (seqs [cL (cN 5 xe)] (seqs (first 3 (cN 6 xe)) (.seq (.seq (cL (cL xeR)) (.block 2 (.loop xe2))) (seqs [cL (cN 10 xe)] .ret))))) := by kernel_rfl
theorem xe1_eq : xe1 = seqs (first 2 xe1) (cN 2 xe1) := by kernel_rfl
theorem xe2_eq : xe2 = seqs (first 2 xe2) (cN 2 xe2) := by kernel_rfl
def wcases : List (Nat × Nat) := [0, 1, 2].flatMap fun x => eight.map fun w => (x, w)
theorem wmem {x w : Nat} (h : x < 3) (k : w < 8) : (x, w) ∈ wcases := by
  have hx : x = 0 ∨ x = 1 ∨ x = 2 := by omega
  simp only [wcases, List.mem_flatMap, List.mem_map]
  exact ⟨x, by simpa using hx, w, mem8 k, rfl⟩
end Go.Proofs.Ytdahjdfjpckdcaa
