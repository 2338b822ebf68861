/- The least and the greatest of a row of numbers. -/
import Derived.Test.YtdahjdfjpckdcaaLtD
namespace Go.Proofs.Ytdahjdfjpckdcaa
open Go Go.Vm
set_option maxRecDepth 100000
def miF (m n : Int) : Int := if n < m then n else m
def mxF (m n : Int) : Int := if n > m then n else m
theorem cmp3_neg {n m : Int} : cmp3 n m < 0 ↔ n < m := by unfold cmp3; split <;> (try split) <;> omega
theorem cmp3_pos {n m : Int} : cmp3 n m > 0 ↔ n > m := by unfold cmp3; split <;> (try split) <;> omega
abbrev mS (a : Nat) (X : List AV) (i : Nat) : List AV := [.lst a X, fnC, .ptr 0 0 0, .ptr 1 0 0, wN (Int.ofNat i)]
theorem some_at (n0 : Int) (r : List Int) (s : Nat) (h : s < r.length) : ((n0 :: r).map some)[s + 1]'(by simp; omega) = some r[s] := by simp
theorem map_len (n0 : Int) (r : List Int) : ((n0 :: r).map some).length = r.length + 1 := by simp
theorem mi_tri (n0 : Int) (r : List Int) (hr : r.length < 100) : Tri Try.prog 33 0 mi (frameOf 0 [.lst (r.length + 1) (cellsO ((n0 :: r).map some)), fnC] .lf) [] (fun x t hp => x = .ret ∧ t.get 4 = .ptr 0 0 0 ∧ hp = [bC' (valC (r.foldl miF n0)), bC' (valC (r.foldl miF n0))]) := by
  have hN : 33 < 16383 := by decide
  generalize hX : cellsO ((n0 :: r).map some) = X
  have hld : ∀ (s : Nat) (h : s < r.length) (hp : List Blk), ldO Try.prog 34 X ((s + 1) * 4) hp = .agg (valC r[s]) := by
    intro s h hp
    have := ldO_at (os := (n0 :: r).map some) (i := s + 1) (by rw [map_len]; omega) hp
    rw [some_at n0 r s h, hX] at this
    exact this
  have hld0 : ldO Try.prog 34 X (0 * 4) [bC' nulC] = .agg (valC n0) := by
    have := ldO_at (os := (n0 :: r).map some) (i := 0) (by rw [map_len]; omega) [bC' nulC]
    rw [hX] at this
    exact this
  rw [mi_eq]
  refine Tri.step gRun gRuns hN (keep := [0, 1]) (vals := [.lst (r.length + 1) X, fnC]) rfl rfl (mi_pre X r.length n0) (hold_eq hld0 (hold_eq (ixO_eq (by omega)) (hold_F (by simp only [Int.ofNat_eq_natCast]; omega) hold_nil))) (fun _ t1 k1 => ?_) (fun h => absurd rfl h)
  refine Tri.seq (Mid := fun x t hp => x = .nrm ∧ [4, 5].map t.get = [.ptr 0 0 0, .ptr 1 0 0] ∧ hp = [bC' nulC, bC' (valC (r.foldl miF n0))]) ?_ ?_ ?_
  · refine Tri.step gRun gRuns hN (l := [cL (cL (cN 3 mi))]) (c := .block 0 (.loop miB)) k1 rfl (mi_i0 _ _ _) hold_nil (fun _ t2 k2 => ?_) (fun h => absurd rfl h)
    refine Tri.block (Tri.loop (fun j t hp => ∃ s, s + j = r.length ∧ [0, 1, 4, 5, 6].map t.get = mS (r.length + 1) X (s + 1) ∧ hp = [bC' nulC, bC' (valC ((r.take s).foldl miF n0))]) ?_ (k := r.length) ⟨0, by omega, k2, rfl⟩)
    rintro j t hp ⟨s, hs, hk, rfl⟩
    rw [miB_eq]
    by_cases hlt : s < r.length
    · have hfold : (r.take (s + 1)).foldl miF n0 = miF ((r.take s).foldl miF n0) r[s] := by
        rw [List.take_succ_eq_append_getElem hlt, List.foldl_append]; rfl
      have rest : ∀ (t1 : Tr) (m : Int), [0, 1, 4, 5, 6].map t1.get = mS (r.length + 1) X (s + 1) → m = (r.take (s + 1)).foldl miF n0 → Tri Try.prog 33 0 (cN 2 miB) t1 [bC' nulC, bC' (valC m)] (fun x t' hp' => (x = .nrm ∧ ∃ j', j = j' + 1 ∧ ∃ s, s + j' = r.length ∧ [0, 1, 4, 5, 6].map t'.get = mS (r.length + 1) X (s + 1) ∧ hp' = [bC' nulC, bC' (valC ((r.take s).foldl miF n0))]) ∨ (x ≠ .nrm ∧ ((x.inBlock 0) = .nrm ∧ [4, 5].map t'.get = [.ptr 0 0 0, .ptr 1 0 0] ∧ hp' = [bC' nulC, bC' (valC (r.foldl miF n0))]))) := by
        rintro t1 m k3 rfl
        exact Tri.last gRun gRuns hN k3 rfl (mi_up X (r.length + 1) (s + 1) _) (hold_eq (up_of (by omega)) hold_nil) (fun t' h' => .inl ⟨rfl, j - 1, by omega, s + 1, by omega, h', rfl⟩)
      generalize hm : (r.take s).foldl miF n0 = m at *
      have hlt' : s + 1 < r.length + 1 := by omega
      by_cases hc : r[s] < m
      · refine Tri.step gRun gRuns hN hk rfl (mi_T X (r.length + 1) (s + 1) r[s] m) (hold_eq (hld s hlt _) (hold_eq (ixO_eq hlt') (hold_T (cmp3_neg.2 hc) (hold_eq (hld s hlt _) (hold_eq (ixO_eq hlt') (hold_T (lt_of hlt') hold_nil)))))) (fun _ t1 k3 => rest t1 _ k3 ?_) (fun h => absurd rfl h)
        rw [hfold]; unfold miF; rw [if_pos hc]
      · refine Tri.step gRun gRuns hN hk rfl (mi_F X (r.length + 1) (s + 1) r[s] m) (hold_F (fun h => hc (cmp3_neg.1 h)) (hold_eq (hld s hlt _) (hold_eq (ixO_eq hlt') (hold_T (lt_of hlt') hold_nil)))) (fun _ t1 k3 => rest t1 _ k3 ?_) (fun h => absurd rfl h)
        rw [hfold]; unfold miF; rw [if_neg hc]
    · have he : s = r.length := by omega
      subst he
      refine Tri.step gRun gRuns hN hk rfl (mi_out X (r.length + 1) (r.length + 1) _) (hold_F (by omega) hold_nil) (fun h => by cases h) (fun _ t' k => .inr ⟨by simp, rfl, ?_, ?_⟩)
      · simp at k ⊢; exact ⟨k.2.2.1, k.2.2.2.1⟩
      · rw [List.take_length]
  · rintro t' hp' ⟨_, hk, rfl⟩
    refine Tri.step gRun gRuns hN hk rfl (mi_end _) hold_nil (fun _ t3 h3 => ?_) (fun h => absurd rfl h)
    exact Tri.run (M := mC) (n := 1) gRun hN (x := .ret) (t' := t3) rfl ⟨rfl, by simpa using h3, rfl⟩
  · rintro x t' hp' hx ⟨rfl, _⟩
    exact absurd rfl hx
theorem mi_ok (n0 : Int) (r : List Int) (hr : r.length < 100) : FnOk Try.prog 40 [.lst (r.length + 1) (cellsO ((n0 :: r).map some)), fnC] [] (.agg (valC (r.foldl miF n0))) [] := by
  refine fn_of_tri (fn := Try.f40) (c := mi) Try.func40 (by kernel_rfl) (show (33 : Nat) < 16383 by decide) ?_
  refine Tri.mono (mi_tri n0 r hr) ?_
  rintro x t hp1 ⟨rfl, h4, rfl⟩
  refine ⟨.inr rfl, ?_⟩
  have e1 : Try.f40.results.toList = [.cell 4 34] := by kernel_rfl
  rw [e1, resV_cell h4]
  generalize r.foldl miF n0 = m
  show _ = _
  kernel_rfl
theorem mx_tri (n0 : Int) (r : List Int) (hr : r.length < 100) : Tri Try.prog 33 0 mx (frameOf 0 [.lst (r.length + 1) (cellsO ((n0 :: r).map some)), fnC] .lf) [] (fun x t hp => x = .ret ∧ t.get 4 = .ptr 0 0 0 ∧ hp = [bC' (valC (r.foldl mxF n0)), bC' (valC (r.foldl mxF n0))]) := by
  have hN : 33 < 16383 := by decide
  generalize hX : cellsO ((n0 :: r).map some) = X
  have hld : ∀ (s : Nat) (h : s < r.length) (hp : List Blk), ldO Try.prog 34 X ((s + 1) * 4) hp = .agg (valC r[s]) := by
    intro s h hp
    have := ldO_at (os := (n0 :: r).map some) (i := s + 1) (by rw [map_len]; omega) hp
    rw [some_at n0 r s h, hX] at this
    exact this
  have hld0 : ldO Try.prog 34 X (0 * 4) [bC' nulC] = .agg (valC n0) := by
    have := ldO_at (os := (n0 :: r).map some) (i := 0) (by rw [map_len]; omega) [bC' nulC]
    rw [hX] at this
    exact this
  rw [mx_eq]
  refine Tri.step gRun gRuns hN (keep := [0, 1]) (vals := [.lst (r.length + 1) X, fnC]) rfl rfl (mx_pre X r.length n0) (hold_eq hld0 (hold_eq (ixO_eq (by omega)) (hold_F (by simp only [Int.ofNat_eq_natCast]; omega) hold_nil))) (fun _ t1 k1 => ?_) (fun h => absurd rfl h)
  refine Tri.seq (Mid := fun x t hp => x = .nrm ∧ [4, 5].map t.get = [.ptr 0 0 0, .ptr 1 0 0] ∧ hp = [bC' nulC, bC' (valC (r.foldl mxF n0))]) ?_ ?_ ?_
  · refine Tri.step gRun gRuns hN (l := [cL (cL (cN 3 mx))]) (c := .block 0 (.loop mxB)) k1 rfl (mx_i0 _ _ _) hold_nil (fun _ t2 k2 => ?_) (fun h => absurd rfl h)
    refine Tri.block (Tri.loop (fun j t hp => ∃ s, s + j = r.length ∧ [0, 1, 4, 5, 6].map t.get = mS (r.length + 1) X (s + 1) ∧ hp = [bC' nulC, bC' (valC ((r.take s).foldl mxF n0))]) ?_ (k := r.length) ⟨0, by omega, k2, rfl⟩)
    rintro j t hp ⟨s, hs, hk, rfl⟩
    rw [mxB_eq]
    by_cases hlt : s < r.length
    · have hfold : (r.take (s + 1)).foldl mxF n0 = mxF ((r.take s).foldl mxF n0) r[s] := by
        rw [List.take_succ_eq_append_getElem hlt, List.foldl_append]; rfl
      have rest : ∀ (t1 : Tr) (m : Int), [0, 1, 4, 5, 6].map t1.get = mS (r.length + 1) X (s + 1) → m = (r.take (s + 1)).foldl mxF n0 → Tri Try.prog 33 0 (cN 2 mxB) t1 [bC' nulC, bC' (valC m)] (fun x t' hp' => (x = .nrm ∧ ∃ j', j = j' + 1 ∧ ∃ s, s + j' = r.length ∧ [0, 1, 4, 5, 6].map t'.get = mS (r.length + 1) X (s + 1) ∧ hp' = [bC' nulC, bC' (valC ((r.take s).foldl mxF n0))]) ∨ (x ≠ .nrm ∧ ((x.inBlock 0) = .nrm ∧ [4, 5].map t'.get = [.ptr 0 0 0, .ptr 1 0 0] ∧ hp' = [bC' nulC, bC' (valC (r.foldl mxF n0))]))) := by
        rintro t1 m k3 rfl
        exact Tri.last gRun gRuns hN k3 rfl (mx_up X (r.length + 1) (s + 1) _) (hold_eq (up_of (by omega)) hold_nil) (fun t' h' => .inl ⟨rfl, j - 1, by omega, s + 1, by omega, h', rfl⟩)
      generalize hm : (r.take s).foldl mxF n0 = m at *
      have hlt' : s + 1 < r.length + 1 := by omega
      by_cases hc : r[s] > m
      · refine Tri.step gRun gRuns hN hk rfl (mx_T X (r.length + 1) (s + 1) r[s] m) (hold_eq (hld s hlt _) (hold_eq (ixO_eq hlt') (hold_T (cmp3_pos.2 hc) (hold_eq (hld s hlt _) (hold_eq (ixO_eq hlt') (hold_T (lt_of hlt') hold_nil)))))) (fun _ t1 k3 => rest t1 _ k3 ?_) (fun h => absurd rfl h)
        rw [hfold]; unfold mxF; rw [if_pos hc]
      · refine Tri.step gRun gRuns hN hk rfl (mx_F X (r.length + 1) (s + 1) r[s] m) (hold_F (fun h => hc (cmp3_pos.1 h)) (hold_eq (hld s hlt _) (hold_eq (ixO_eq hlt') (hold_T (lt_of hlt') hold_nil)))) (fun _ t1 k3 => rest t1 _ k3 ?_) (fun h => absurd rfl h)
        rw [hfold]; unfold mxF; rw [if_neg hc]
    · have he : s = r.length := by omega
      subst he
      refine Tri.step gRun gRuns hN hk rfl (mx_out X (r.length + 1) (r.length + 1) _) (hold_F (by omega) hold_nil) (fun h => by cases h) (fun _ t' k => .inr ⟨by simp, rfl, ?_, ?_⟩)
      · simp at k ⊢; exact ⟨k.2.2.1, k.2.2.2.1⟩
      · rw [List.take_length]
  · rintro t' hp' ⟨_, hk, rfl⟩
    refine Tri.step gRun gRuns hN hk rfl (mx_end _) hold_nil (fun _ t3 h3 => ?_) (fun h => absurd rfl h)
    exact Tri.run (M := mC) (n := 1) gRun hN (x := .ret) (t' := t3) rfl ⟨rfl, by simpa using h3, rfl⟩
  · rintro x t' hp' hx ⟨rfl, _⟩
    exact absurd rfl hx
theorem mx_ok (n0 : Int) (r : List Int) (hr : r.length < 100) : FnOk Try.prog 42 [.lst (r.length + 1) (cellsO ((n0 :: r).map some)), fnC] [] (.agg (valC (r.foldl mxF n0))) [] := by
  refine fn_of_tri (fn := Try.f42) (c := mx) Try.func42 (by kernel_rfl) (show (33 : Nat) < 16383 by decide) ?_
  refine Tri.mono (mx_tri n0 r hr) ?_
  rintro x t hp1 ⟨rfl, h4, rfl⟩
  refine ⟨.inr rfl, ?_⟩
  have e1 : Try.f42.results.toList = [.cell 4 34] := by kernel_rfl
  rw [e1, resV_cell h4]
  generalize r.foldl mxF n0 = m
  show _ = _
  kernel_rfl
end Go.Proofs.Ytdahjdfjpckdcaa
