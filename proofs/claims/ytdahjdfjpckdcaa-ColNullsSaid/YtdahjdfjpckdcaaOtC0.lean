/- Nulls in bytes, in one way: names. -/
import Derived.Test.YtdahjdfjpckdcaaOtB
namespace Go.Proofs.Ytdahjdfjpckdcaa
open Go Go.Vm
set_option maxRecDepth 100000
open Classical in
/-- a contract of one call -/
noncomputable def oneD (A : List AV) (v : AV) : List AV → List Blk → Option (AV × List Blk) := fun args hp => if args = A ∧ hp = [] then some (v, []) else none
theorem of_oneD {f : FuncId} {A : List AV} {v : AV} (h : FnOk Try.prog f A [] v []) {args : List AV} {hp hp' : List Blk} {r : AV} (k : oneD A v args hp = some (r, hp')) : FnOk Try.prog f args hp r hp' := by
  unfold oneD at k
  split at k
  · rename_i e; obtain ⟨rfl, rfl⟩ := e; cases k; exact h
  · cases k
theorem oneD_eq (A : List AV) (v : AV) : outF (oneD A v A []) = v := by
  unfold oneD
  rw [if_pos ⟨rfl, rfl⟩]; rfl
abbrev OvD := List AV → List Blk → Option (AV × List Blk)
theorem okP {A B : OvD} (hA : ∀ args hp r hp', A args hp = some (r, hp') → FnOk Try.prog 156 args hp r hp') (hB : ∀ args hp r hp', B args hp = some (r, hp') → FnOk Try.prog 120 args hp r hp') (f : FuncId) (K : OvD) (h : (mP A B).ov f = some K) (args : List AV) (hp : List Blk) (r : AV) (hp' : List Blk) (k : K args hp = some (r, hp')) : FnOk Try.prog f args hp r hp' := by
  rcases ov_cond h with ⟨rfl, rfl⟩ | h
  · exact hA _ _ _ _ k
  rcases ov_cond h with ⟨rfl, rfl⟩ | h
  · exact hB _ _ _ _ k
  cases h
theorem resV_tmps {P : Program} {t : Tr} {hp : List Blk} {i j : Nat} {x y : AV} (h : t.get i = x) (k : t.get j = y) : resV P t hp [.tmp i, .tmp j] = some [x, y] := by
  subst h; subst k; rfl
theorem pack_ok (n : Nat) (h64 : n ≤ 64) : FnOk Try.prog 120 [.lst n (ZX n), wN 1] [] (.tup [.lst ((n + 7) / 8) (zB ((n + 7) / 8)).cells, wN 0]) [] := by
  have hov := okP (A := oneD [.lst n (ZX n)] (wN 0)) (B := fun _ _ => none) (fun _ _ _ _ k => of_oneD (width_ok n h64) k) (fun _ _ _ _ k => by cases k)
  refine fn_of_tri (fn := Try.f120) (c := bodyOf Try.f120) Try.func120 (by kernel_rfl) (show (61 : Nat) < 16383 by decide) ?_
  refine Tri.mono (pk_tri (orV_ok hov 60) (orS_ok 60) n _ h64 rfl (oneD_eq _ _)) ?_
  rintro x t hp1 ⟨rfl, h4, h5⟩
  refine ⟨.inr rfl, ?_⟩
  have e1 : Try.f120.results.toList = [.tmp 4, .tmp 5] := by kernel_rfl
  rw [e1, resV_tmps h4 h5]
  generalize (zB ((n + 7) / 8)).cells = c
  generalize (n + 7) / 8 = m
  show _ = _
  kernel_rfl
/-- what a call gives, its row not written any more -/
theorem _root_.Go.Vm.FnOk.frozen {P : Program} {f : FuncId} {args : List AV} {r v : AV} {hp' hp2 : List Blk} (h : FnOk P f args [] r hp') (hf : Vm.frz hp' r = some (v, hp2)) : FnOk P f args [] (ren (posOf []) v) [] := by
  intro m S w args' hs hargs
  refine (h m S w args' hs hargs).mono ?_
  rintro e w' ⟨u, m', S', rfl, q1, q2, q3, q4, q5⟩
  obtain ⟨S2, g1, g2, g3⟩ := frz_ok q1 hf q5
  obtain ⟨k1, k2⟩ := g1.gc (js := []) (by simp) (by simp) (sub := []) rfl
  refine ⟨u, _, S2, rfl, k1, fun i e he => ?_, fun b hb => g2 b (q3 b hb), q4, ren_ok k2 v _ g3⟩
  exact absurd ((hs.dom i).2 (by rw [he]; rfl)) (by simp)
def mQ (A B C : OvD) : Vm.Mode := ⟨fun f => Nat.beq f 68, fun f => cond (Nat.beq f 38) (some A) (cond (Nat.beq f 120) (some B) (cond (Nat.beq f 121) (some C) none))⟩
noncomputable abbrev qV (A B C : OvD) := orV Try.prog (mQ A B C) 60
noncomputable abbrev qS (A B C : OvD) := orS Try.prog (mQ A B C) 60
theorem okQ {A B C : OvD} (hA : ∀ args hp r hp', A args hp = some (r, hp') → FnOk Try.prog 38 args hp r hp') (hB : ∀ args hp r hp', B args hp = some (r, hp') → FnOk Try.prog 120 args hp r hp') (hC : ∀ args hp r hp', C args hp = some (r, hp') → FnOk Try.prog 121 args hp r hp')
    (f : FuncId) (K : OvD) (h : (mQ A B C).ov f = some K) (args : List AV) (hp : List Blk) (r : AV) (hp' : List Blk) (k : K args hp = some (r, hp')) : FnOk Try.prog f args hp r hp' := by
  rcases ov_cond h with ⟨rfl, rfl⟩ | h
  · exact hA _ _ _ _ k
  rcases ov_cond h with ⟨rfl, rfl⟩ | h
  · exact hB _ _ _ _ k
  rcases ov_cond h with ⟨rfl, rfl⟩ | h
  · exact hC _ _ _ _ k
  cases h
def mByr : Vm.Mode := ⟨fun f => Nat.beq f 68, fun _ => none⟩
theorem okByr (f : FuncId) (F : OvD) (h : mByr.ov f = some F) (args : List AV) (hp : List Blk) (r : AV) (hp' : List Blk) (_ : F args hp = some (r, hp')) : FnOk Try.prog f args hp r hp' := by cases h
theorem told1 : FnOk Try.prog 121 [nilS, wN 1] [] nilS [] := runV_ok (M := mByr) okByr 60 _ _ _ _ _ (by kernel_rfl)
theorem told2 : FnOk Try.prog 121 [nilS, wN 2] [] nilS [] := runV_ok (M := mByr) okByr 60 _ _ _ _ _ (by kernel_rfl)
theorem told3 : FnOk Try.prog 121 [nilS, wN 3] [] (.lit 1 [vB8 0]) [] := runV_ok (M := mByr) okByr 60 _ _ _ _ _ (by kernel_rfl)
theorem told4 : FnOk Try.prog 121 [nilS, wN 4] [] (.lst 2 [vB8 0, vB8 0]) [] :=
  (runV_ok (M := mByr) okByr 60 _ _ _ (.ref 0 2 0 2) [{ cells := [vB8 0, vB8 0], esz := 1, gen := 2, row := true, ro := false }] (by kernel_rfl)).frozen (v := .lst 2 [vB8 0, vB8 0]) (hp2 := [{ cells := [vB8 0, vB8 0], esz := 1, gen := 2, row := true, ro := true }]) rfl
noncomputable def pt : Code := bodyOf Try.f73
noncomputable def ptB : Code := cI (cI (cR (cL (cN 5 pt))))
theorem pt_eq : pt = seqs (first 5 pt) (.seq (.seq (cL (cL (cN 5 pt))) (.block 0 (.loop ptB))) (seqs (first 3 (cN 6 pt)) .ret)) := by kernel_rfl
theorem ptB_eq : ptB = seqs (first 3 ptB) (cN 3 ptB) := by kernel_rfl
abbrev zr (xs : List AV) (g : Nat) : Blk := { cells := xs, esz := 1, gen := g, row := true, ro := false }
def mayL : List (Int × Int) := [(1, 1), (1, 2), (1, 3), (2, 1), (2, 4), (3, 1)]
def noL : List (Int × Int) := [(1, 4), (2, 2), (2, 3), (3, 2), (3, 3), (3, 4)]
end Go.Proofs.Ytdahjdfjpckdcaa
