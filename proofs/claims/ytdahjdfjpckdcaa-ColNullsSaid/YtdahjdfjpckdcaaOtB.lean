/- Rows of Nulls: checked, their truths packed. -/
import Derived.Test.YtdahjdfjpckdcaaOtA
namespace Go.Proofs.Ytdahjdfjpckdcaa
open Go Go.Vm
set_option maxRecDepth 100000
theorem gRun' : RunOk Try.prog gV := orV_ok okC 60
theorem gRuns' : RunsOk gV gS := orS_ok 60
abbrev NX (n : Nat) : List AV := cellsO (List.replicate n none)
abbrev cnS (n : Nat) (K : Int) (i : Nat) : List AV := [.lst n (NX n), wN K, .lst n (NX n), wN (Int.ofNat n), wN (Int.ofNat i)]
theorem ldN_none {n i : Nat} (h : i < n) (hp : List Blk) : ldO Try.prog 34 (NX n) (i * 4) hp = .agg nulC := by
  have := ldO_at (os := List.replicate n none) (i := i) (by simpa using h) hp
  rw [List.getElem_replicate] at this
  exact this
theorem cn_tri (n : Nat) (K : Int) (h1 : 1 ≤ K) (h3 : K ≤ 3) : Tri Try.prog 33 0 ck (frameOf 0 [.lst n (NX n), wN K] .lf) [] (fun x t _ => x = .ret ∧ t.get 4 = wN (if n ≤ 64 then 0 else 4)) := by
  have hN : 33 < 16383 := by decide
  rw [ck_eq]
  by_cases h : n ≤ 64
  · rw [if_pos h]
    refine Tri.step gRun' gRuns' hN (keep := [0, 1]) (vals := [.lst n (NX n), wN K]) rfl rfl (cn_pre _ _ _) (hold_F (by simp only [Int.ofNat_eq_natCast]; omega) (hold_F (by omega) (hold_F (by omega) hold_nil))) (fun _ t1 k1 => ?_) (fun h => absurd rfl h)
    refine Tri.seq (Mid := fun x _ _ => x = .nrm) ?_ ?_ ?_
    · refine Tri.step gRun' gRuns' hN (l := [cL (cL (cN 3 ck))]) (c := .block 0 (.loop ckB)) k1 rfl (cn_i0 _ _ _) hold_nil (fun _ t2 k2 => ?_) (fun h => absurd rfl h)
      refine Tri.block (Tri.loop (fun j t hp => ∃ i, i + j = n ∧ [0, 1, 17, 18, 19].map t.get = cnS n K i ∧ hp = []) ?_ (k := n) ⟨0, by omega, k2, rfl⟩)
      rintro j t hp ⟨i, hi, hk, rfl⟩
      rw [ckB_eq]
      by_cases hlt : i < n
      · refine Tri.step gRun' gRuns' hN hk rfl (cn_in (NX n) n i K) (hold_eq (ldN_none hlt _) (hold_eq (ixO_eq hlt) (hold_T (lt_of hlt) hold_nil))) (fun _ t1 k3 => ?_) (fun h => absurd rfl h)
        refine Tri.drop (js := []) (l := []) rfl (by decide) (by simp) (sub := []) rfl k3 rfl (vals' := cnS n K i) rfl ?_
        exact Tri.last gRun' gRuns' hN (keep := [0, 1, 17, 18, 19]) (vals := cnS n K i) rfl rfl (cn_up _ _ i K) (hold_eq (up_of (by omega)) hold_nil) (fun t' h' => .inl ⟨rfl, j - 1, by omega, i + 1, by omega, h', rfl⟩)
      · exact Tri.step gRun' gRuns' hN hk rfl (cn_out _ _ i K) (hold_F (by simp only [Int.ofNat_eq_natCast]; omega) hold_nil) (fun h => by cases h) (fun _ t' _ => .inr ⟨by simp, rfl⟩)
    · rintro t' hp' _
      refine Tri.step gRun' gRuns' hN (keep := []) (vals := []) rfl rfl (ck_end _) hold_nil (fun _ t3 h3 => ?_) (fun h => absurd rfl h)
      exact Tri.run (M := mC) (n := 1) gRun' hN (x := .ret) (t' := t3) rfl ⟨rfl, by simpa using h3⟩
    · rintro x t' hp' hx rfl
      exact absurd rfl hx
  · rw [if_neg h]
    exact Tri.step gRun' gRuns' hN (keep := [0, 1]) (vals := [.lst n (NX n), wN K]) rfl rfl (cn_long _ _ _) (hold_T (by simp only [Int.ofNat_eq_natCast]; omega) (hold_F (by omega) (hold_F (by omega) hold_nil))) (fun h => by cases h) (fun _ t k => ⟨rfl, by simpa using k⟩)
theorem checkN_ok (n : Nat) (K : Int) (h1 : 1 ≤ K) (h3 : K ≤ 3) : FnOk Try.prog 38 [.lst n (NX n), wN K] [] (wN (if n ≤ 64 then 0 else 4)) [] := by
  refine fn_of_tri (fn := Try.f38) (c := ck) Try.func38 (by kernel_rfl) (show (33 : Nat) < 16383 by decide) ?_
  refine Tri.mono (cn_tri n K h1 h3) ?_
  rintro x t hp1 ⟨rfl, h4⟩
  refine ⟨.inr rfl, ?_⟩
  have e1 : resV Try.prog t hp1 Try.f38.results.toList = some [t.get 4] := by kernel_rfl
  rw [e1, h4]
  generalize (if n ≤ 64 then (0 : Int) else 4) = e
  exact (by kernel_rfl : gcV 0 (wN e) hp1 = some (wN e, []))

/-! widths -/
abbrev ZX (n : Nat) : List AV := List.replicate n (v64 0)
theorem agg159 : isAggT Try.prog 159 = some false := by kernel_rfl
theorem zx_at {n i : Nat} (h : i < n) : (ZX n)[i * 1]? = some (v64 0) := by rw [Nat.mul_one, List.getElem?_replicate, if_pos h]
theorem w0Run : RunOk Try.prog (orV Try.prog m0' 60) := orV_ok ok0' 60
theorem w0Runs : RunsOk (orV Try.prog m0' 60) (orS Try.prog m0' 60) := orS_ok 60
abbrev wdS (n i : Nat) : List AV := [wN 0, .lst n (ZX n), wN (Int.ofNat n), wN (Int.ofNat i)]
theorem wd_tri (n : Nat) (h64 : n ≤ 64) : Tri Try.prog 18 0 wd (frameOf 0 [.lst n (ZX n)] .lf) [] (fun x t _ => x = .ret ∧ t.get 2 = wN 0) := by
  have hN : 18 < 16383 := by decide
  rw [wd_eq]
  refine Tri.step w0Run w0Runs hN (keep := [0]) (vals := [.lst n (ZX n)]) rfl rfl (wd_pre _ _) hold_nil (fun _ t1 k1 => ?_) (fun h => absurd rfl h)
  refine Tri.seq (Mid := fun x t _ => x = .nrm ∧ [3].map t.get = [wN 0]) ?_ ?_ ?_
  · refine Tri.step w0Run w0Runs hN (l := [cL (cL (cN 2 wd))]) (c := .block 0 (.loop wdB)) k1 rfl (wd_i0 _ _) hold_nil (fun _ t2 k2 => ?_) (fun h => absurd rfl h)
    refine Tri.block (Tri.loop (fun j t hp => ∃ i, i + j = n ∧ [3, 6, 7, 8].map t.get = wdS n i ∧ hp = []) ?_ (k := n) ⟨0, by omega, k2, rfl⟩)
    rintro j t hp ⟨i, hi, hk, rfl⟩
    rw [wdB_eq]
    by_cases hlt : i < n
    · refine Tri.step w0Run w0Runs hN hk rfl (wd_in (ZX n) n i) (hold_eq (ldO_eq agg159 (zx_at hlt)) (hold_eq (ixO_eq hlt) (hold_T (lt_of hlt) hold_nil))) (fun _ t1 k3 => ?_) (fun h => absurd rfl h)
      exact Tri.last w0Run w0Runs hN k3 rfl (wd_up _ _ i) (hold_eq (up_of (by omega)) hold_nil) (fun t' h' => .inl ⟨rfl, j - 1, by omega, i + 1, by omega, h', rfl⟩)
    · exact Tri.step w0Run w0Runs hN hk rfl (wd_out _ _ i) (hold_F (by simp only [Int.ofNat_eq_natCast]; omega) hold_nil) (fun h => by cases h) (fun _ t' k => .inr ⟨by simp, rfl, k⟩)
  · rintro t' hp' ⟨_, hk⟩
    refine Tri.step w0Run w0Runs hN hk rfl (wd_end _) hold_nil (fun _ t3 h3 => ?_) (fun h => absurd rfl h)
    exact Tri.run (M := m0') (n := 1) w0Run hN (x := .ret) (t' := t3) rfl ⟨rfl, by simpa using h3⟩
  · rintro x t' hp' hx ⟨rfl, _⟩
    exact absurd rfl hx
theorem width_ok (n : Nat) (h64 : n ≤ 64) : FnOk Try.prog 156 [.lst n (ZX n)] [] (wN 0) [] := by
  refine fn_of_tri (fn := Try.f156) (c := wd) Try.func156 (by kernel_rfl) (show (18 : Nat) < 16383 by decide) ?_
  refine Tri.mono (wd_tri n h64) ?_
  rintro x t hp1 ⟨rfl, h4⟩
  refine ⟨.inr rfl, ?_⟩
  have e1 : resV Try.prog t hp1 Try.f156.results.toList = some [t.get 2] := by kernel_rfl
  rw [e1, h4]
  exact (by kernel_rfl : gcV 0 (wN 0) hp1 = some (wN 0, []))

/-! bits -/
theorem zB_cells (m : Nat) : (zB m).cells = List.replicate m (vB8 0) := by
  show (List.replicate m [vB8 0]).flatten = _
  induction m with
  | zero => rfl
  | succ m ih => rw [List.replicate_succ, List.flatten_cons, ih, List.replicate_succ]; rfl
theorem elem22 : elemT Try.prog 22 = some 5 := by kernel_rfl
theorem sz5 : szT Try.prog 5 = some 1 := by kernel_rfl
theorem bytes5 : bytesT Try.prog 5 = some 1 := by kernel_rfl
theorem zero5 : zeroT Try.prog 5 = some (.int .u8 0) := by kernel_rfl
theorem agg5' : isAggT Try.prog 5 = some false := by kernel_rfl
theorem mkSl_eq (m : Nat) (h : m ≤ 1000) : mkSl Try.prog 22 m [] = some (.val (.ref 0 0 0 m) [zB m]) := by
  unfold mkSl
  have e1 : cellsA (abs1 (Value.int .u8 0)) = [vB8 0] := rfl
  have e2 : ((List.replicate m [vB8 0]).flatten).all imm0 = true := by
    rw [show (List.replicate m [vB8 0]).flatten = List.replicate m (vB8 0) from zB_cells m, List.all_replicate]
    split <;> rfl
  simp only [elem22, sz5, bytes5, zero5, e1, e2, ble_of (show 1 * m ≤ 70368744177664 by omega), Nat.beq_refl, ble_of (Nat.le_refl m)]
  rfl
theorem splice_same {m q : Nat} (h : q < m) : splice (List.replicate m (vB8 0)) q [vB8 0] = List.replicate m (vB8 0) := by
  unfold splice
  rw [List.take_replicate, List.drop_replicate, show [vB8 0] = List.replicate 1 (vB8 0) from rfl, List.replicate_append_replicate, List.replicate_append_replicate]
  congr 1
  simp only [List.length_replicate]
  omega
theorem ixR_eq {m q : Nat} (h : q < m) : ixR [zB m] q m 0 0 0 1 = .ptr 0 0 (0 + q * 1) := by
  unfold ixR
  have e1 : getB [zB m] 0 0 = some (zB m) := rfl
  have e2 : Nat.blt q m = true := by simp [Nat.blt_eq]; exact h
  have e3 : (zB m).cells.length = m := by rw [zB_cells]; simp
  simp only [e1, e2, e3, ble_of (show (q + 1) * 1 + 0 ≤ m by omega)]
  rfl
theorem ld5_eq {m q : Nat} (h : q < m) (hp : List Blk) : ldO Try.prog 5 (zB m).cells (0 + q * 1) hp = vB8 0 := by
  refine ldO_eq agg5' ?_
  rw [zB_cells, List.getElem?_replicate, if_pos (by omega)]
theorem stR_eq {m q : Nat} (h : q < m) : stR [zB m] 0 0 (0 + q * 1) [vB8 0] = .tup [.p undef, .agg ([zB m].map encB)] := by
  unfold stR stV
  have e1 : getB [zB m] 0 0 = some (zB m) := rfl
  have e3 : (zB m).cells.length = m := by rw [zB_cells]; simp
  have e4 : splice (zB m).cells (0 + q * 1) [vB8 0] = (zB m).cells := by
    rw [zB_cells, show 0 + q * 1 = q by omega]; exact splice_same h
  simp only [e1, e3, e4, List.length_cons, List.length_nil, ble_of (show 0 + q * 1 + (0 + 1) ≤ m by omega)]
  rfl
section
variable {A B : List AV → List Blk → Option (AV × List Blk)} (hR : RunOk Try.prog (orV Try.prog (mP A B) 60)) (hr : RunsOk (orV Try.prog (mP A B) 60) (orS Try.prog (mP A B) 60))
include hR hr
abbrev pkS (n m s i : Nat) : List AV := [wN 1, .ref 0 0 0 m, wN (Int.ofNat s), .lst n (ZX n), wN (Int.ofNat n), wN (Int.ofNat i)]
theorem pk_tri (n m : Nat) (h64 : n ≤ 64) (hm : m = (n + 7) / 8) (hA : outF (A [.lst n (ZX n)] []) = wN 0) :
    Tri Try.prog 61 0 (bodyOf Try.f120) (frameOf 0 [.lst n (ZX n), wN 1] .lf) [] (fun x t _ => x = .ret ∧ t.get 4 = .lst m (zB m).cells ∧ t.get 5 = wN 0) := by
  have hN : 61 < 16383 := by decide
  rw [pk_eq]
  refine Tri.step hR hr hN (keep := [0, 1]) (vals := [.lst n (ZX n), wN 1]) rfl rfl (pk_0 A B _ _) hold_nil (fun _ t0 k0 => ?_) (fun h => absurd rfl h)
  refine Tri.scope ?_
  rw [pk_eq2]
  have wm : wN (IntKind.wrap .i64 ((IntKind.wrap .i64 (IntKind.wrap .i64 (Int.ofNat n * 1) + 7)).tdiv 8)) = wN (Int.ofNat m) := by
    rw [wrap_in (x := Int.ofNat n * 1) (by simp only [Int.ofNat_eq_natCast]; omega) (by simp only [Int.ofNat_eq_natCast]; omega), wrap_in (x := Int.ofNat n * 1 + 7) (by simp only [Int.ofNat_eq_natCast]; omega) (by simp only [Int.ofNat_eq_natCast]; omega),
      Int.tdiv_eq_ediv_of_nonneg (by simp only [Int.ofNat_eq_natCast]; omega), wrap_in (by simp only [Int.ofNat_eq_natCast]; omega) (by simp only [Int.ofNat_eq_natCast]; omega)]
    simp only [Int.ofNat_eq_natCast]; congr 2; omega
  refine Tri.step hR hr hN k0 rfl (pk_pre A B (ZX n) n m) (hold_eq (by rw [mkSl_eq m (by omega)]; rfl) (hold_eq wm (hold_T (by simp only [Int.ofNat_eq_natCast]; omega) (hold_T (by simp only [Int.ofNat_eq_natCast]; omega) (hold_F (by simp only [Int.ofNat_eq_natCast]; omega) (hold_eq hA hold_nil)))))) (fun _ t1 k1 => ?_) (fun h => absurd rfl h)
  refine Tri.seq (Mid := fun x t hp => x = .nrm ∧ [4].map t.get = [.ref 0 0 0 m] ∧ hp = [zB m]) ?_ ?_ ?_
  · refine Tri.step hR hr hN (l := [cL (cL (cN 4 pk))]) (c := .block 0 (.loop pkB)) k1 rfl (pk_i0 A B (ZX n) n m) hold_nil (fun _ t2 k2 => ?_) (fun h => absurd rfl h)
    refine Tri.block (Tri.loop (fun j t hp => ∃ i, i + j = n ∧ [1, 4, 6, 30, 31, 32].map t.get = pkS n m i i ∧ hp = [zB m]) ?_ (k := n) ⟨0, by omega, k2, rfl⟩)
    rintro j t hp ⟨i, hi, hk, rfl⟩
    rw [pkB_eq]
    by_cases hlt : i < n
    · have hq : i / 8 < m := by omega
      have hr8 : i % 8 ∈ eight' := by
        have : i % 8 = 0 ∨ i % 8 = 1 ∨ i % 8 = 2 ∨ i % 8 = 3 ∨ i % 8 = 4 ∨ i % 8 = 5 ∨ i % 8 = 6 ∨ i % 8 = 7 := by omega
        simpa [eight'] using this
      have e1 : wN (IntKind.wrap .i64 ((Int.ofNat i).tdiv 8)) = wN (Int.ofNat (i / 8)) := by
        rw [Int.tdiv_eq_ediv_of_nonneg (by simp only [Int.ofNat_eq_natCast]; omega), wrap_in (by simp only [Int.ofNat_eq_natCast]; omega) (by simp only [Int.ofNat_eq_natCast]; omega)]
        simp only [Int.ofNat_eq_natCast]; congr 2
      have e2 : wN ((Int.ofNat i).tmod 8) = wN (Int.ofNat (i % 8)) := by
        rw [Int.tmod_eq_emod_of_nonneg (by simp only [Int.ofNat_eq_natCast]; omega)]
        simp only [Int.ofNat_eq_natCast]; congr 2
      refine Tri.step hR hr hN hk rfl (List.map_inj_left.1 (pk_in A B (ZX n) n i m (i / 8)) _ hr8) ?_ (fun _ t1 k3 => ?_) (fun h => absurd rfl h)
      · exact hold_eq (up_of (by omega)) (hold_eq (stR_eq hq) (hold_eq (ixR_eq hq) (hold_eq e2 (hold_eq (ld5_eq hq _) (hold_eq (ixR_eq hq) (hold_eq e1 (hold_eq (ldO_eq agg159 (zx_at hlt)) (hold_eq (ixO_eq hlt) (hold_T (lt_of hlt) hold_nil)))))))))
      exact Tri.last hR hr hN k3 rfl (pk_up A B (ZX n) n i m) (hold_eq (up_of (by omega)) hold_nil) (fun t' h' => .inl ⟨rfl, j - 1, by omega, i + 1, by omega, h', rfl⟩)
    · exact Tri.step hR hr hN hk rfl (pk_out A B (ZX n) n i m _) (hold_F (by simp only [Int.ofNat_eq_natCast]; omega) hold_nil) (fun h => by cases h) (fun _ t' k => .inr ⟨by simp, rfl, k, rfl⟩)
  · rintro t' hp' ⟨_, hk, rfl⟩
    refine Tri.of_keep hk rfl ?_
    refine Tri.frz (i := 4) (by decide) (v := .lst m (zB m).cells) (hp' := [{ zB m with ro := true }]) ?_ ?_
    · exact frz_ref (hp := [zB m]) (i := 0) (g := 0) (n := m) (b := zB m) rfl rfl rfl (by rw [zB_cells]; simp)
    refine Tri.drop (js := []) (l := []) rfl (by decide) (by simp) (sub := []) rfl (keep := [4]) (vals := [.lst m (zB m).cells]) rfl rfl (vals' := [.lst m (zB m).cells]) rfl ?_
    refine Tri.seq (Mid := fun x t hp => x = .ret ∧ t.get 4 = .lst m (zB m).cells ∧ t.get 5 = wN 0) ?_ ?_ ?_
    · refine Tri.step hR hr hN (keep := [4]) (vals := [.lst m (zB m).cells]) rfl rfl (pk_end A B _) hold_nil (fun _ t3 h3 => ?_) (fun h => absurd rfl h)
      simp only [List.map_cons, List.map_nil, List.cons.injEq, and_true] at h3
      exact Tri.run (M := mP A B) (n := 1) hR hN (x := .ret) (t' := t3) rfl ⟨rfl, h3.1, h3.2⟩
    · rintro t3 hp3 ⟨h, _⟩
      cases h
    · rintro x t3 hp3 hx ⟨rfl, h4, h5⟩
      exact ⟨fun l => by simp, rfl, h4, h5⟩
  · rintro x t' hp' hx ⟨rfl, _⟩
    exact absurd rfl hx
end
end Go.Proofs.Ytdahjdfjpckdcaa
