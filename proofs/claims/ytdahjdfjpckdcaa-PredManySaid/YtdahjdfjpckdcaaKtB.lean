/- What comparing two numbers gives. -/
import Derived.Test.YtdahjdfjpckdcaaKtA
namespace Go.Proofs.Ytdahjdfjpckdcaa
open Go Go.Vm
set_option maxRecDepth 100000
theorem ok0' (f : FuncId) (F : List AV → List Blk → Option (AV × List Blk)) (h : m0'.ov f = some F) (args : List AV) (hp : List Blk) (r : AV) (hp' : List Blk) (_ : F args hp = some (r, hp')) : FnOk Try.prog f args hp r hp' := by cases h
theorem cmp_lt (a b : Int) : runS Try.prog m0' 50 41 [.agg (valC a), .agg (valC b)] [] ([(59, wB false), (7, wB false), (7, wB true)], []) = some (wN (-1), [], ([], [(wB (decide (a < b)), wB true), (wB (b != b), wB false), (wB (a != a), wB false)])) := by kernel_rfl
theorem cmp_eq (a b : Int) : runS Try.prog m0' 50 41 [.agg (valC a), .agg (valC b)] [] ([(59, wB false), (7, wB false), (7, wB false), (2, wB false)], []) = some (wN (0), [], ([], [(wB (decide (a > b)), wB false), (wB (decide (a < b)), wB false), (wB (b != b), wB false), (wB (a != a), wB false)])) := by kernel_rfl
theorem cmp_gt (a b : Int) : runS Try.prog m0' 50 41 [.agg (valC a), .agg (valC b)] [] ([(59, wB false), (7, wB false), (7, wB false), (2, wB true)], []) = some (wN (1), [], ([], [(wB (decide (a > b)), wB true), (wB (decide (a < b)), wB false), (wB (b != b), wB false), (wB (a != a), wB false)])) := by kernel_rfl
theorem cmp_run (a b : Int) : runV Try.prog m0' 50 41 [.agg (valC a), .agg (valC b)] [] = some (wN (cmp3 a b), []) := by
  have ha : (a != a) = false := by simp
  have hb : (b != b) = false := by simp
  unfold cmp3
  by_cases h : a < b
  · rw [if_pos h]; exact runS_run (cmp_lt a b) (hold_T h (hold_b hb (hold_b ha hold_nil)))
  · rw [if_neg h]
    by_cases k : a > b
    · rw [if_pos k]; exact runS_run (cmp_gt a b) (hold_T k (hold_F h (hold_b hb (hold_b ha hold_nil))))
    · rw [if_neg k]; exact runS_run (cmp_eq a b) (hold_F k (hold_F h (hold_b hb (hold_b ha hold_nil))))
theorem cmp_ok (a b : Int) : FnOk Try.prog 41 [.agg (valC a), .agg (valC b)] [] (wN (cmp3 a b)) [] := runV_ok (M := m0') ok0' 50 _ _ _ _ _ (cmp_run a b)
/-- its contract -/
def oCmp : List AV → List Blk → Option (AV × List Blk)
  | [.agg [.p (.int .i64 (.ofNat 1)), .p (.int .i64 a), .p (.string s), .p (.complex .f64 0 0)], .agg [.p (.int .i64 (.ofNat 1)), .p (.int .i64 b), .p (.string u), .p (.complex .f64 0 0)]], [] =>
    cond (s.data.toList.isEmpty && u.data.toList.isEmpty) (some (wN (cmp3 a b), [])) none
  | _, _ => none
theorem empty_str {s : ByteArray} (h : s.data.toList.isEmpty = true) : s = { data := { toList := [] } } := by
  rcases s with ⟨⟨l⟩⟩
  simp at h
  rw [h]
theorem of_cmp {args : List AV} {hp hp' : List Blk} {r : AV} (h : oCmp args hp = some (r, hp')) : FnOk Try.prog 41 args hp r hp' := by
  unfold oCmp at h
  split at h
  · rename_i a s b u
    cases hc : (s.data.toList.isEmpty && u.data.toList.isEmpty) with
    | false => rw [hc] at h; cases h
    | true =>
      rw [hc] at h
      rw [Bool.and_eq_true] at hc
      rw [empty_str hc.1, empty_str hc.2]
      cases h
      exact cmp_ok a b
  · cases h
end Go.Proofs.Ytdahjdfjpckdcaa
