/- What a column of two numbers has. -/
import Derived.Test.YtdahjdfjpckdcaaKtD
namespace Go.Proofs.Ytdahjdfjpckdcaa
open Go Go.Vm
set_option maxRecDepth 100000
def selfC (a : Int) : Bool := ((1 : Int) == 1) && ((a == a) && ((([] : List UInt8) == []) && ((Op.floatEq .f64 0 0 && Op.floatEq .f64 0 0) && true)))
theorem selfC_eq (a : Int) : selfC a = true := by
  have : Op.floatEq .f64 0 0 = true := by decide +kernel
  unfold selfC
  rw [this]; simp
theorem of_lt (a b : Int) : runS Try.prog mC 60 17 [.lst 2 (valC a ++ valC b), wN 1] [] ([(46, wB false), (115, wB false), (175, wB false), (32, wB true)], []) =
    some (.tup [.agg (statC 2 0 a b), wN 0], [], ([], [(wB (decide (cmp3 b a > 0)), wB true), (wB (decide (cmp3 b a < 0)), wB false), (wB (!(selfC b)), wB false), (wB (!(selfC a)), wB false)])) := by kernel_rfl
theorem of_eq (a b : Int) : runS Try.prog mC 60 17 [.lst 2 (valC a ++ valC b), wN 1] [] ([(46, wB false), (115, wB false), (175, wB false), (32, wB false)], []) =
    some (.tup [.agg (statC 2 0 a a), wN 0], [], ([], [(wB (decide (cmp3 b a > 0)), wB false), (wB (decide (cmp3 b a < 0)), wB false), (wB (!(selfC b)), wB false), (wB (!(selfC a)), wB false)])) := by kernel_rfl
theorem of_ltn (a b : Int) : runS Try.prog mC 60 17 [.lst 3 (valC a ++ valC b ++ nulC), wN 1] [] ([(46, wB false), (115, wB false), (306, wB false), (32, wB true)], []) =
    some (.tup [.agg (statC 3 1 a b), wN 0], [], ([], [(wB (decide (cmp3 b a > 0)), wB true), (wB (decide (cmp3 b a < 0)), wB false), (wB (!(selfC b)), wB false), (wB (!(selfC a)), wB false)])) := by kernel_rfl
theorem of_eqn (a b : Int) : runS Try.prog mC 60 17 [.lst 3 (valC a ++ valC b ++ nulC), wN 1] [] ([(46, wB false), (115, wB false), (306, wB false), (32, wB false)], []) =
    some (.tup [.agg (statC 3 1 a a), wN 0], [], ([], [(wB (decide (cmp3 b a > 0)), wB false), (wB (decide (cmp3 b a < 0)), wB false), (wB (!(selfC b)), wB false), (wB (!(selfC a)), wB false)])) := by kernel_rfl
theorem of2_ok {a b : Int} (h : a ≤ b) : FnOk Try.prog 17 [.lst 2 (valC a ++ valC b), wN 1] [] (.tup [.agg (statC 2 0 a b), wN 0]) [] ∧ FnOk Try.prog 17 [.lst 3 (valC a ++ valC b ++ nulC), wN 1] [] (.tup [.agg (statC 3 1 a b), wN 0]) [] := by
  have ha : (!(selfC a)) = false := by rw [selfC_eq]; rfl
  have hb : (!(selfC b)) = false := by rw [selfC_eq]; rfl
  by_cases e : a < b
  · have e2 : cmp3 b a = 1 := by unfold cmp3; rw [if_neg (by omega), if_pos (by omega)]
    have e3 : ¬ cmp3 b a < 0 := by omega
    have e4 : cmp3 b a > 0 := by omega
    exact ⟨runV_ok (M := mC) okC 60 _ _ _ _ _ (runS_run (of_lt a b) (hold_T e4 (hold_F e3 (hold_b hb (hold_b ha hold_nil))))),
      runV_ok (M := mC) okC 60 _ _ _ _ _ (runS_run (of_ltn a b) (hold_T e4 (hold_F e3 (hold_b hb (hold_b ha hold_nil)))))⟩
  · have e1 : b = a := by omega
    subst e1
    have e2 : cmp3 b b = 0 := by unfold cmp3; rw [if_neg (by omega), if_neg (by omega)]
    have e3 : ¬ cmp3 b b < 0 := by omega
    have e4 : ¬ cmp3 b b > 0 := by omega
    exact ⟨runV_ok (M := mC) okC 60 _ _ _ _ _ (runS_run (of_eq b b) (hold_F e4 (hold_F e3 (hold_b hb (hold_b ha hold_nil))))),
      runV_ok (M := mC) okC 60 _ _ _ _ _ (runS_run (of_eqn b b) (hold_F e4 (hold_F e3 (hold_b hb (hold_b ha hold_nil)))))⟩
end Go.Proofs.Ytdahjdfjpckdcaa
