/- PredMany: what comes of kids: names. -/
import Derived.Test.YtdahjdfjpckdcaaVmI
import Derived.Test.YtdahjdfjpckdcaaPtC0
namespace Go.Proofs.Ytdahjdfjpckdcaa
open Go Go.Vm
set_option maxRecDepth 100000
abbrev OvR := List AV → List Blk → Option (AV × List Blk)
def kidC : Nat → List AV
  | 0 => leafC 1 2
  | 1 => leafC 1 1
  | _ => [wN 1, wN 1, wN 1, wN 1, sE, cZ, cZ, cZ, nilS]
def kidsC (ds : List Nat) : List AV := ds.flatMap kidC
abbrev rowR : AV := .lst 2 (valC 1 ++ nulC)
theorem kid0 : FnOk Try.prog 21 [.agg (kidC 0), rowR] [] (wN 0) [] := runV_ok (M := mWk) okWk 60 _ _ _ _ _ (by kernel_rfl)
theorem kid1 : FnOk Try.prog 21 [.agg (kidC 1), rowR] [] (wN 1) [] := runV_ok (M := mWk) okWk 60 _ _ _ _ _ (by kernel_rfl)
theorem kid2 : FnOk Try.prog 21 [.agg (kidC 2), rowR] [] (wN 2) [] := runV_ok (M := mWk) okWk 60 _ _ _ _ _ (by kernel_rfl)
def mJn (A : OvR) : Vm.Mode := ⟨fun _ => false, fun f => cond (Nat.beq f 21) (some A) none⟩
noncomputable abbrev jV (A : OvR) := orV Try.prog (mJn A) 60
noncomputable abbrev jS (A : OvR) := orS Try.prog (mJn A) 60
noncomputable def jn : Code := bodyOf Try.f46
noncomputable def jnB : Code := cI (cI (cR (cL (cN 2 jn))))
theorem jn_eq : jn = seqs (first 2 jn) (.seq (.seq (cL (cL (cN 2 jn))) (.block 0 (.loop jnB))) (seqs [cL (cN 3 jn)] .ret)) := by kernel_rfl
theorem jnB_eq : jnB = seqs (first 3 jnB) (cN 3 jnB) := by kernel_rfl
def pairs2 : List (Nat × Nat) := [(0, 0), (0, 1), (0, 2), (1, 0), (1, 1), (1, 2)]
open Classical in
noncomputable def tblR : List (List AV × AV) → OvR
  | [], _, _ => none
  | (A, v) :: r, args, hp => if args = A ∧ hp = [] then some (v, []) else tblR r args hp
theorem of_tblR {f : FuncId} : ∀ {T : List (List AV × AV)}, (∀ q ∈ T, FnOk Try.prog f q.1 [] q.2 []) → ∀ {args : List AV} {hp hp' : List Blk} {r : AV}, tblR T args hp = some (r, hp') → FnOk Try.prog f args hp r hp'
  | [], _, _, _, _, _, k => by cases k
  | (A, v) :: T, h, args, hp, hp', r, k => by
    unfold tblR at k
    split at k
    · rename_i e; obtain ⟨rfl, rfl⟩ := e; cases k; exact h _ (List.mem_cons_self ..)
    · exact of_tblR (fun q hq => h q (List.mem_cons_of_mem _ hq)) k
theorem tblR_hit (A : List AV) (v : AV) (T : List (List AV × AV)) : outF (tblR ((A, v) :: T) A []) = v := by
  unfold tblR
  rw [if_pos ⟨rfl, rfl⟩]; rfl
theorem tblR_miss {A B : List AV} (v : AV) (T : List (List AV × AV)) (h : A ≠ B) : outF (tblR ((B, v) :: T) A []) = outF (tblR T A []) := by
  conv => lhs; unfold tblR
  rw [if_neg (fun e => h e.1)]
end Go.Proofs.Ytdahjdfjpckdcaa
