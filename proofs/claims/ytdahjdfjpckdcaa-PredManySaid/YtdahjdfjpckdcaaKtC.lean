/- What may be of one comparison. -/
import Derived.Test.YtdahjdfjpckdcaaKtC0
namespace Go.Proofs.Ytdahjdfjpckdcaa
open Go Go.Vm
set_option maxRecDepth 100000
theorem leaf0 (rows low high v : Int) : (cases3.map fun q => runS Try.prog mC 50 19 [.agg (leafC q.1 v), .lst 1 (statC rows 0 low high)] [] ([(12, wB false), (31, wB false), (21, wN q.2.1), (0, wN q.2.2)], [])) =
    cases3.map fun q => some (wN (maskI q.1 q.2.1 q.2.2 0), [], ([], [(wN (cmp3 high v), wN q.2.2), (wN (cmp3 low v), wN q.2.1), (wB (decide ((0 : Int) ≥ rows)), wB false), (wB (decide (rows < 1)), wB false)])) := by kernel_rfl
theorem leaf1 (rows low high v : Int) : (cases3.map fun q => runS Try.prog mC 50 19 [.agg (leafC q.1 v), .lst 1 (statC rows 1 low high)] [] ([(12, wB false), (32, wB false), (21, wN q.2.1), (0, wN q.2.2)], [])) =
    cases3.map fun q => some (wN (maskI q.1 q.2.1 q.2.2 1), [], ([], [(wN (cmp3 high v), wN q.2.2), (wN (cmp3 low v), wN q.2.1), (wB (decide ((1 : Int) ≥ rows)), wB false), (wB (decide (rows < 1)), wB false)])) := by kernel_rfl
theorem cmp3_mem (a b : Int) : cmp3 a b = -1 ∨ cmp3 a b = 0 ∨ cmp3 a b = 1 := by
  unfold cmp3; split
  · exact .inl rfl
  · split
    · exact .inr (.inr rfl)
    · exact .inr (.inl rfl)
theorem mem3 {op c d : Int} (h1 : 1 ≤ op) (h2 : op ≤ 6) (hc : c = -1 ∨ c = 0 ∨ c = 1) (hd : d = -1 ∨ d = 0 ∨ d = 1) : (op, c, d) ∈ cases3 := by
  have ho : op ∈ ops6 := by
    have : op = 1 ∨ op = 2 ∨ op = 3 ∨ op = 4 ∨ op = 5 ∨ op = 6 := by omega
    simp [ops6, this]
  have hc' : c ∈ cs3 := by simpa [cs3] using hc
  have hd' : d ∈ cs3 := by simpa [cs3] using hd
  simp only [cases3, List.mem_flatMap, List.mem_map]
  exact ⟨op, ho, c, hc', d, hd', rfl⟩
theorem leaf_ok {op v rows nulls low high : Int} (h1 : 1 ≤ op) (h2 : op ≤ 6) (hn : nulls = 0 ∨ nulls = 1) (hr : nulls < rows) :
    FnOk Try.prog 19 [.agg (leafC op v), .lst 1 (statC rows nulls low high)] [] (wN (maskI op (cmp3 low v) (cmp3 high v) nulls)) [] := by
  have hm := mem3 h1 h2 (cmp3_mem low v) (cmp3_mem high v)
  rcases hn with rfl | rfl
  · exact runV_ok (M := mC) okC 50 _ _ _ _ _ (runS_run (List.map_inj_left.1 (leaf0 rows low high v) _ hm) (hold_eq rfl (hold_eq rfl (hold_F (by omega) (hold_F (by omega) hold_nil)))))
  · exact runV_ok (M := mC) okC 50 _ _ _ _ _ (runS_run (List.map_inj_left.1 (leaf1 rows low high v) _ hm) (hold_eq rfl (hold_eq rfl (hold_F (by omega) (hold_F (by omega) hold_nil)))))
end Go.Proofs.Ytdahjdfjpckdcaa
