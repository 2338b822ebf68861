/- Of, of any row of numbers and Nulls. -/
import Derived.Test.YtdahjdfjpckdcaaLtG
namespace Go.Proofs.Ytdahjdfjpckdcaa
open Go Go.Vm
set_option maxRecDepth 100000
theorem okG {F G H : OvF} (hF : ∀ args hp r hp', F args hp = some (r, hp') → FnOk Try.prog 38 args hp r hp') (hG : ∀ args hp r hp', G args hp = some (r, hp') → FnOk Try.prog 40 args hp r hp') (hH : ∀ args hp r hp', H args hp = some (r, hp') → FnOk Try.prog 42 args hp r hp')
    (f : FuncId) (K : OvF) (h : (mG F G H).ov f = some K) (args : List AV) (hp : List Blk) (r : AV) (hp' : List Blk) (k : K args hp = some (r, hp')) : FnOk Try.prog f args hp r hp' := by
  rcases ov_cond h with ⟨rfl, rfl⟩ | h
  · exact hF _ _ _ _ k
  rcases ov_cond h with ⟨rfl, rfl⟩ | h
  · exact hG _ _ _ _ k
  rcases ov_cond h with ⟨rfl, rfl⟩ | h
  · exact hH _ _ _ _ k
  cases h
theorem resV_two {P : Program} {t : Tr} {hp : List Blk} {i j : Nat} {ty : TypeId} {x y : AV} (h : t.get i = x) (k : t.get j = y) : resV P t hp [.cell i ty, .tmp j] = (match cellsAt hp x with | some (xs, k) => (match ld P ty xs k with | some v => some [v, y] | none => none) | none => none) := by
  subst h; subst k
  simp only [resV]
  cases cellsAt hp (t.get i) with
  | none => rfl
  | some q => rfl
theorem fin17 (t : Tr) (s : List AV) (hs : (∃ a nl, s = statZ a nl) ∨ (∃ a nl lo hi, s = statC a nl lo hi)) (h4 : t.get 4 = .ptr 0 0 0) (h5 : t.get 5 = wN 0) :
    (match resV Try.prog t [bC' s, bC' s] Try.f17.results.toList with | some [v] => gcV 0 v [bC' s, bC' s] | some vs => gcV 0 (.tup vs) [bC' s, bC' s] | none => none) = some (.tup [.agg s, wN 0], []) := by
  have e1 : Try.f17.results.toList = [.cell 4 40, .tmp 5] := by kernel_rfl
  rw [e1, resV_two h4 h5]
  rcases hs with ⟨a, nl, rfl⟩ | ⟨a, nl, lo, hi, rfl⟩
  · show _ = _
    kernel_rfl
  · show _ = _
    kernel_rfl
theorem statO_form (os : List (Option Int)) : (∃ a nl, statO os = statZ a nl) ∨ (∃ a nl lo hi, statO os = statC a nl lo hi) := by
  unfold statO
  split
  · exact .inl ⟨_, _, rfl⟩
  · exact .inr ⟨_, _, _, _, rfl⟩
theorem of_ok (os : List (Option Int)) (h64 : os.length ≤ 64) : FnOk Try.prog 17 [.lst os.length (cellsO os), wN 1] [] (.tup [.agg (statO os), wN 0]) [] := by
  have hl : (numN os).length ≤ 64 := by have := nn_len os; omega
  have key : ∀ F G H : OvF, RunOk Try.prog (hV F G H) → RunsOk (hV F G H) (hS F G H) → outF (F [.lst os.length (cellsO os), wN 1] []) = wN 0 → (∀ n r, numN os = n :: r → outF (G [.lst (r.length + 1) (cellsO ((n :: r).map some)), fnC] []) = .agg (valC (r.foldl miF n))) →
      (∀ n r, numN os = n :: r → outF (H [.lst (r.length + 1) (cellsO ((n :: r).map some)), fnC] []) = .agg (valC (r.foldl mxF n))) → FnOk Try.prog 17 [.lst os.length (cellsO os), wN 1] [] (.tup [.agg (statO os), wN 0]) [] := by
    intro F G H hR hr hF hG hH
    refine fn_of_tri (fn := Try.f17) (c := sf) Try.func17 (by kernel_rfl) (show (66 : Nat) < 16383 by decide) ?_
    refine Tri.mono (sf_tri os h64 hR hr hF hG hH) ?_
    rintro x t hp1 ⟨rfl, h4, h5, rfl⟩
    exact ⟨.inr rfl, fin17 t _ (statO_form os) h4 h5⟩
  have c1 : ∀ args hp r hp', oneC [.lst os.length (cellsO os), wN 1] (wN 0) args hp = some (r, hp') → FnOk Try.prog 38 args hp r hp' := fun _ _ _ _ k => of_oneC (check_ok os h64) k
  cases hn : numN os with
  | nil =>
    have hov := okG (F := oneC [.lst os.length (cellsO os), wN 1] (wN 0)) (G := fun _ _ => none) (H := fun _ _ => none) c1 (fun _ _ _ _ k => by cases k) (fun _ _ _ _ k => by cases k)
    exact key _ _ _ (orV_ok hov 60) (orS_ok 60) (oneC_eq _ _) (fun n r h => by rw [hn] at h; cases h) (fun n r h => by rw [hn] at h; cases h)
  | cons n r =>
    have hr : r.length < 100 := by rw [hn] at hl; simp at hl; omega
    have hov := okG (F := oneC [.lst os.length (cellsO os), wN 1] (wN 0)) (G := oneC [.lst (r.length + 1) (cellsO ((n :: r).map some)), fnC] (.agg (valC (r.foldl miF n)))) (H := oneC [.lst (r.length + 1) (cellsO ((n :: r).map some)), fnC] (.agg (valC (r.foldl mxF n))))
      c1 (fun _ _ _ _ k => of_oneC (mi_ok n r hr) k) (fun _ _ _ _ k => of_oneC (mx_ok n r hr) k)
    exact key _ _ _ (orV_ok hov 60) (orS_ok 60) (oneC_eq _ _) (fun n' r' h => by rw [hn] at h; cases h; exact oneC_eq _ _) (fun n' r' h => by rw [hn] at h; cases h; exact oneC_eq _ _)
end Go.Proofs.Ytdahjdfjpckdcaa
