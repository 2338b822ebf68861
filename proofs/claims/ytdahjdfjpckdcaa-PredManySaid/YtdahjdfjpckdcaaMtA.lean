/- What a comparison tells of a row of one value. -/
import Derived.Test.YtdahjdfjpckdcaaMtA0
import Derived.Test.YtdahjdfjpckdcaaLtA
namespace Go.Proofs.Ytdahjdfjpckdcaa
open Go Go.Vm
set_option maxRecDepth 100000
theorem eval_some (v n : Int) : (cases2.map fun q => runS Try.prog mC 50 21 [.agg (leafC q.1 v), .lst 1 (valC n)] [] ([(36, wN q.2)], [])) = cases2.map fun q => some (wN (Int.ofNat (evN q.1 q.2)), [], ([], [(wN (cmp3 n v), wN q.2)])) := by kernel_rfl
theorem eval_none (v : Int) : (ops6.map fun q => runS Try.prog mC 50 21 [.agg (leafC q v), .lst 1 nulC] [] ([], [])) = ops6.map fun _ => some (wN (Int.ofNat 2), [], ([], [])) := by kernel_rfl
def outE (op v : Int) : Option Int → Nat
  | some n => evN op (cmp3 n v)
  | none => 2
theorem eval_ok {op v : Int} (o : Option Int) (h1 : 1 ≤ op) (h2 : op ≤ 6) : FnOk Try.prog 21 [.agg (leafC op v), .lst 1 (elC o)] [] (wN (Int.ofNat (outE op v o))) [] := by
  cases o with
  | some n => exact runV_ok (M := mC) okC 50 _ _ _ _ _ (runS_run (List.map_inj_left.1 (eval_some v n) (op, cmp3 n v) (mem2 h1 h2 (cmp3_mem n v))) (hold_eq rfl hold_nil))
  | none =>
    have ho : op ∈ ops6 := by
      have : op = 1 ∨ op = 2 ∨ op = 3 ∨ op = 4 ∨ op = 5 ∨ op = 6 := by omega
      simp [ops6, this]
    exact runV_ok (M := mC) okC 50 _ _ _ _ _ (runS_run (List.map_inj_left.1 (eval_none v) op ho) hold_nil)
theorem elOf_ok {cs : List AV} {o : Option Int} (h : elOf cs = some o) : cs = elC o := by
  unfold elOf at h
  split at h
  · rename_i n s
    cases hc : s.data.toList.isEmpty with
    | false => rw [hc] at h; cases h
    | true => rw [hc] at h; cases h; rw [empty_str hc]; rfl
  · rename_i s
    cases hc : s.data.toList.isEmpty with
    | false => rw [hc] at h; cases h
    | true => rw [hc] at h; cases h; rw [empty_str hc]; rfl
  · cases h
def oEval (args : List AV) (hp : List Blk) : Option (AV × List Blk) :=
  match args, hp with
  | [.agg cs, .lst 1 ds], [] => (match leafOf cs, elOf ds with | some (op, v), some o => if 1 ≤ op ∧ op ≤ 6 then some (wN (Int.ofNat (outE op v o)), []) else none | _, _ => none)
  | _, _ => none
theorem of_eval {args : List AV} {hp hp' : List Blk} {r : AV} (h : oEval args hp = some (r, hp')) : FnOk Try.prog 21 args hp r hp' := by
  unfold oEval at h
  split at h
  · split at h
    · rename_i cs ds op v o e1 e2
      split at h
      · rename_i hc
        cases h
        rw [leafOf_ok e1, elOf_ok e2]
        exact eval_ok o hc.1 hc.2
      · cases h
    · cases h
  · cases h
theorem oEval_eq {op v : Int} (o : Option Int) (h : 1 ≤ op ∧ op ≤ 6) : outF (oEval [.agg (leafC op v), .lst 1 (elC o)] []) = wN (Int.ofNat (outE op v o)) := by
  have e : oEval [.agg (leafC op v), .lst 1 (elC o)] [] = if 1 ≤ op ∧ op ≤ 6 then some (wN (Int.ofNat (outE op v o)), []) else none := by cases o <;> rfl
  rw [e, if_pos h]; rfl
end Go.Proofs.Ytdahjdfjpckdcaa
