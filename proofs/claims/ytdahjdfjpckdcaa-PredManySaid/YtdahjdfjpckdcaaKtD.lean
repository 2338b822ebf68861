/- What may be of a contrary, and of two together. -/
import Derived.Test.YtdahjdfjpckdcaaKtD1
namespace Go.Proofs.Ytdahjdfjpckdcaa
open Go Go.Vm
set_option maxRecDepth 100000
theorem not_path (op v rows nulls low high : Int) : (eight.map fun p => runS Try.prog mE 50 19 [.agg (nodeC 11 (.lst 1 (leafC op v))), .lst 1 (statC rows nulls low high)] [] ([(12, wB false), (12, .ifc 4294967293 (wN (Int.ofNat p)))], [])) =
    eight.map fun p => some (wN (Int.ofNat (notN p)), [], ([], [(outF (oLeaf [.agg (leafC op v), .lst 1 (statC rows nulls low high)] []), wN (Int.ofNat p)), (wB (decide (rows < 1)), wB false)])) := by kernel_rfl
theorem and_path (op v pp u rows nulls low high : Int) : (pairs8.map fun q => runS Try.prog mE 50 19 [.agg (nodeC 9 (.lst 2 (leafC op v ++ leafC pp u))), .lst 1 (statC rows nulls low high)] [] ([(12, wB false), (20, .ifc 4294967293 (wN (Int.ofNat q.1))), (23, .ifc 4294967293 (wN (Int.ofNat q.2)))], [])) =
    pairs8.map fun q => some (wN (Int.ofNat (allN q.1 q.2)), [], ([], [(outF (oLeaf [.agg (leafC pp u), .lst 1 (statC rows nulls low high)] []), wN (Int.ofNat q.2)), (outF (oLeaf [.agg (leafC op v), .lst 1 (statC rows nulls low high)] []), wN (Int.ofNat q.1)), (wB (decide (rows < 1)), wB false)])) := by kernel_rfl
theorem or_path (op v pp u rows nulls low high : Int) : (pairs8.map fun q => runS Try.prog mE 50 19 [.agg (nodeC 10 (.lst 2 (leafC op v ++ leafC pp u))), .lst 1 (statC rows nulls low high)] [] ([(12, wB false), (22, .ifc 4294967293 (wN (Int.ofNat q.1))), (26, .ifc 4294967293 (wN (Int.ofNat q.2)))], [])) =
    pairs8.map fun q => some (wN (Int.ofNat (anyN q.1 q.2)), [], ([], [(outF (oLeaf [.agg (leafC pp u), .lst 1 (statC rows nulls low high)] []), wN (Int.ofNat q.2)), (outF (oLeaf [.agg (leafC op v), .lst 1 (statC rows nulls low high)] []), wN (Int.ofNat q.1)), (wB (decide (rows < 1)), wB false)])) := by kernel_rfl
theorem not_ok {cs : List AV} {st : AV} {p : Nat} (h : maskA cs st = some (Int.ofNat p)) (hp : p < 8) : FnOk Try.prog 19 [.agg (nodeC 11 (.lst 1 cs)), st] [] (wN (Int.ofNat (notN p))) [] := by
  obtain ⟨op, v, rows, nulls, low, high, rfl, rfl, hc, hm⟩ := maskA_ok h
  exact runV_ok (M := mE) okE 50 _ _ _ _ _ (runS_run (List.map_inj_left.1 (not_path op v rows nulls low high) p (mem8 hp)) (hold_eq (oLeaf_eq h) (hold_F (by omega) hold_nil)))
theorem two_ok {op v pp u rows nulls low high : Int} {p q : Nat} (h : maskA (leafC op v) (.lst 1 (statC rows nulls low high)) = some (Int.ofNat p)) (k : maskA (leafC pp u) (.lst 1 (statC rows nulls low high)) = some (Int.ofNat q)) (hr : ¬ rows < 1) (hp : p < 8) (hq : q < 8) :
    FnOk Try.prog 19 [.agg (nodeC 9 (.lst 2 (leafC op v ++ leafC pp u))), .lst 1 (statC rows nulls low high)] [] (wN (Int.ofNat (allN p q))) [] ∧
    FnOk Try.prog 19 [.agg (nodeC 10 (.lst 2 (leafC op v ++ leafC pp u))), .lst 1 (statC rows nulls low high)] [] (wN (Int.ofNat (anyN p q))) [] :=
  ⟨runV_ok (M := mE) okE 50 _ _ _ _ _ (runS_run (List.map_inj_left.1 (and_path op v pp u rows nulls low high) (p, q) (memp hp hq)) (hold_eq (oLeaf_eq k) (hold_eq (oLeaf_eq h) (hold_F hr hold_nil)))),
   runV_ok (M := mE) okE 50 _ _ _ _ _ (runS_run (List.map_inj_left.1 (or_path op v pp u rows nulls low high) (p, q) (memp hp hq)) (hold_eq (oLeaf_eq k) (hold_eq (oLeaf_eq h) (hold_F hr hold_nil))))⟩
end Go.Proofs.Ytdahjdfjpckdcaa
