/- Checking a column's values: numbers and Nulls may be. -/
import Derived.Test.YtdahjdfjpckdcaaLtB
namespace Go.Proofs.Ytdahjdfjpckdcaa
open Go Go.Vm
set_option maxRecDepth 100000
theorem gRun : RunOk Try.prog gV := orV_ok okC 60
theorem gRuns : RunsOk gV gS := orS_ok 60
theorem lt_of {i a : Nat} (h : i < a) : Int.ofNat i < Int.ofNat a := by simp only [Int.ofNat_eq_natCast]; omega
theorem up_of {i : Nat} (h : i < 1000) : wN (IntKind.wrap .i64 (Int.ofNat i + 1)) = wN (Int.ofNat (i + 1)) := by
  rw [wrap_in (by simp only [Int.ofNat_eq_natCast]; omega) (by simp only [Int.ofNat_eq_natCast]; omega)]
  simp only [Int.ofNat_eq_natCast]; congr 2
theorem selfC_no (n : Int) : (!(selfC n)) = false := by rw [selfC_eq]; rfl
abbrev ckS (os : List (Option Int)) (i : Nat) : List AV := [.lst os.length (cellsO os), wN 1, .lst os.length (cellsO os), wN (Int.ofNat os.length), wN (Int.ofNat i)]
theorem check_tri (os : List (Option Int)) (h : os.length ≤ 64) : Tri Try.prog 33 0 ck (frameOf 0 [.lst os.length (cellsO os), wN 1] .lf) [] (fun x t _ => x = .ret ∧ t.get 4 = wN 0) := by
  have hN : 33 < 16383 := by decide
  rw [ck_eq]
  refine Tri.step gRun gRuns hN (keep := [0, 1]) (vals := [.lst os.length (cellsO os), wN 1]) rfl rfl (ck_pre _ _) (hold_F (by simp only [Int.ofNat_eq_natCast]; omega) hold_nil) (fun _ t1 k1 => ?_) (fun h => absurd rfl h)
  refine Tri.seq (Mid := fun x _ _ => x = .nrm) ?_ ?_ ?_
  · refine Tri.step gRun gRuns hN (l := [cL (cL (cN 3 ck))]) (c := .block 0 (.loop ckB)) k1 rfl (ck_i0 _ _) hold_nil (fun _ t2 k2 => ?_) (fun h => absurd rfl h)
    refine Tri.block (Tri.loop (fun j t hp => ∃ i, i + j = os.length ∧ [0, 1, 17, 18, 19].map t.get = ckS os i ∧ hp = []) ?_ (k := os.length) ⟨0, by omega, k2, rfl⟩)
    rintro j t hp ⟨i, hi, hk, rfl⟩
    rw [ckB_eq]
    by_cases hlt : i < os.length
    · have rest : ∀ (t1 : Tr) (b : Blk), [0, 1, 17, 18, 19].map t1.get = ckS os i → Tri Try.prog 33 0 (cN 3 ckB) t1 [b] (fun x t' hp' => (x = .nrm ∧ ∃ j', j = j' + 1 ∧ ∃ i, i + j' = os.length ∧ [0, 1, 17, 18, 19].map t'.get = ckS os i ∧ hp' = []) ∨ (x ≠ .nrm ∧ (x.inBlock 0) = .nrm)) := by
        intro t1 b k3
        refine Tri.drop (js := []) (l := []) rfl (by decide) (by simp) (sub := []) rfl k3 rfl (vals' := ckS os i) rfl ?_
        exact Tri.last gRun gRuns hN (keep := [0, 1, 17, 18, 19]) (vals := ckS os i) rfl rfl (ck_up _ _ i) (hold_eq (up_of (by omega)) hold_nil) (fun t' h' => .inl ⟨rfl, j - 1, by omega, i + 1, by omega, h', rfl⟩)
      have hel := ldO_at hlt []
      cases ho : os[i] with
      | some n =>
        rw [ho] at hel
        exact Tri.step gRun gRuns hN hk rfl (ck_some (cellsO os) os.length i n) (hold_b (selfC_no n) (hold_eq hel (hold_eq (ixO_eq hlt) (hold_T (lt_of hlt) hold_nil)))) (fun _ t1 k3 => rest t1 _ k3) (fun h => absurd rfl h)
      | none =>
        rw [ho] at hel
        exact Tri.step gRun gRuns hN hk rfl (ck_none (cellsO os) os.length i) (hold_eq hel (hold_eq (ixO_eq hlt) (hold_T (lt_of hlt) hold_nil))) (fun _ t1 k3 => rest t1 _ k3) (fun h => absurd rfl h)
    · exact Tri.step gRun gRuns hN hk rfl (ck_out _ _ i) (hold_F (by simp only [Int.ofNat_eq_natCast]; omega) hold_nil) (fun h => by cases h) (fun _ t' _ => .inr ⟨by simp, rfl⟩)
  · rintro t' hp' _
    refine Tri.step gRun gRuns hN (keep := []) (vals := []) rfl rfl (ck_end _) hold_nil (fun _ t3 h3 => ?_) (fun h => absurd rfl h)
    exact Tri.run (M := mC) (n := 1) gRun hN (x := .ret) (t' := t3) rfl ⟨rfl, by simpa using h3⟩
  · rintro x t' hp' hx rfl
    exact absurd rfl hx
theorem check_ok (os : List (Option Int)) (h : os.length ≤ 64) : FnOk Try.prog 38 [.lst os.length (cellsO os), wN 1] [] (wN 0) [] := by
  refine fn_of_tri (fn := Try.f38) (c := ck) Try.func38 (by kernel_rfl) (show (33 : Nat) < 16383 by decide) ?_
  refine Tri.mono (check_tri os h) ?_
  rintro x t hp1 ⟨rfl, h4⟩
  refine ⟨.inr rfl, ?_⟩
  have e1 : resV Try.prog t hp1 Try.f38.results.toList = some [t.get 4] := by kernel_rfl
  rw [e1, h4]
  exact (by kernel_rfl : gcV 0 (wN 0) hp1 = some (wN 0, []))
end Go.Proofs.Ytdahjdfjpckdcaa
