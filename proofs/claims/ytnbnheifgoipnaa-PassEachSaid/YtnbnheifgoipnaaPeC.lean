/- PassEach: the loop and the call. -/
import Derived.Test.YtnbnheifgoipnaaPeB
namespace Go.Proofs.Ytnbnheifgoipnaa
open Go Go.Vm
set_option maxRecDepth 100000
theorem hold_eq {x y : AV} {cs : List (AV × AV)} (h : x = y) (k : Hold cs) : Hold ((x, y) :: cs) := by
  intro c hc
  rcases List.mem_cons.1 hc with rfl | hc
  · exact h
  · exact k c hc
theorem wrap_in {x : Int} (h1 : -9223372036854775808 ≤ x) (h2 : x < 9223372036854775808) : IntKind.wrap .i64 x = x := by
  show (if (true && decide (x % 18446744073709551616 ≥ 9223372036854775808)) = true then x % 18446744073709551616 - 18446744073709551616 else x % 18446744073709551616) = x
  simp only [Bool.true_and, decide_eq_true_eq]
  split <;> omega
theorem rOk_in {f i : Int} {m : Nat} (hf : 0 ≤ f) (hf2 : f < Int.ofNat (m + 1)) (hi : 0 ≤ i) (hi2 : i < Int.ofNat (m + 1)) : rOk f (Int.ofNat (m + 1)) i = true := by
  unfold rOk; rw [decide_eq_true_eq]; omega
theorem each_to {f : Int} {m i : Nat} (hm : m ≤ 255) (hf : 0 ≤ f) (hf2 : f < Int.ofNat (m + 1)) (hi : i < m + 1) : rTo f (Int.ofNat (m + 1)) (Int.ofNat i) = (IntKind.wrap .i64 (f + Int.ofNat i)).tmod (Int.ofNat (m + 1)) := by
  have hi' : Int.ofNat i < Int.ofNat (m + 1) := by simp only [Int.ofNat_eq_natCast]; omega
  have hi0 : 0 ≤ Int.ofNat i := by simp only [Int.ofNat_eq_natCast]; omega
  have hk : Int.ofNat (m + 1) ≤ 256 := by simp only [Int.ofNat_eq_natCast]; omega
  unfold rTo
  rw [rOk_in hf hf2 hi0 hi', if_pos rfl]
  generalize Int.ofNat (m + 1) = K at *
  generalize Int.ofNat i = I at *
  rw [wrap_in (x := K - f) (by omega) (by omega), wrap_in (x := f + I) (by omega) (by omega), Int.tmod_eq_emod_of_nonneg (by omega)]
  by_cases hc : I ≥ K - f
  · rw [if_pos hc, wrap_in (by omega) (by omega)]
    have : (f + I) % K = (f + I - K) % K := by rw [Int.sub_emod_right]
    rw [this, Int.emod_eq_of_lt (by omega) (by omega)]
    omega
  · rw [if_neg hc, Int.emod_eq_of_lt (by omega) (by omega)]

theorem each_tri (a f : Int) (m : Nat) (hm : m ≤ 255) (ha : 0 ≤ a) (ha2 : a ≤ 255) (hf : f = a.tmod (Int.ofNat (m + 1))) : Tri Try.prog 80 eB (frameOf 0 [vU a, vU (Int.ofNat m)] .lf) [] (fun x t hp1 => x = .ret ∧ t.get 4 = vT ∧ hp1 = [blk f m (Int.ofNat (m + 1))]) := by
  have hK : (0 : Int) < Int.ofNat (m + 1) := by simp only [Int.ofNat_eq_natCast]; omega
  have hK2 : Int.ofNat (m + 1) ≤ 256 := by simp only [Int.ofNat_eq_natCast]; omega
  have hf0 : 0 ≤ f := by rw [hf, Int.tmod_eq_emod_of_nonneg ha]; exact Int.emod_nonneg _ (by omega)
  have hf1 : f < Int.ofNat (m + 1) := by rw [hf, Int.tmod_eq_emod_of_nonneg ha]; exact Int.emod_lt_of_pos _ hK
  have hrun : RunOk Try.prog eV := orV_ok ok2 50
  have hr : RunsOk eV eS := orS_ok 50
  have hN : 80 < 16383 := by decide
  rw [eB_eq]
  refine Tri.step hrun hr hN (keep := [0, 1]) (vals := [vU a, vU (Int.ofNat m)]) rfl rfl (each_pre a f m) ?_ (fun _ t1 h1 => ?_) (fun h => absurd rfl h)
  · refine hold_eq ?_ (hold_eq ?_ hold_nil)
    · rw [wrap_in (by omega) (by omega), hf]
    · have : IntKind.wrap .i64 (Int.ofNat m) = Int.ofNat m := wrap_in (by simp only [Int.ofNat_eq_natCast]; omega) (by simp only [Int.ofNat_eq_natCast]; omega)
      rw [this, wrap_in (by simp only [Int.ofNat_eq_natCast]; omega) (by simp only [Int.ofNat_eq_natCast]; omega)]
      have e1 : (1 : Int) + Int.ofNat m = Int.ofNat (m + 1) := by simp only [Int.ofNat_eq_natCast]; omega
      rw [e1]
  rw [e5_eq]
  refine Tri.seq (Mid := fun x t hp => x = .nrm ∧ [4, 5, 7].map t.get = [vF, vK m, .ptr 0 0 0] ∧ hp = [blk f m (Int.ofNat (m + 1))]) ?_ ?_ ?_
  · refine Tri.step hrun hr hN (l := [sL (sL e5)]) (c := .block 0 (.loop eL)) h1 rfl (each_r6 f m) hold_nil (fun _ t2 h2 => ?_) (fun h => absurd rfl h)
    refine Tri.block (Tri.loop (fun j t hp => ∃ i, i + j = m + 1 ∧ [4, 5, 6, 7, 8].map t.get = [vF, vK m, vN f, .ptr 0 0 0, vN (Int.ofNat i)] ∧ hp = [blk f m (Int.ofNat i)]) ?_ (k := m + 1) ⟨0, by omega, h2, rfl⟩)
    rintro j t hp ⟨i, hi, hk, rfl⟩
    by_cases hlt : i < m + 1
    · have hi' : Int.ofNat i < Int.ofNat (m + 1) := by simp only [Int.ofNat_eq_natCast]; omega
      have hi0 : 0 ≤ Int.ofNat i := by simp only [Int.ofNat_eq_natCast]; omega
      have hok := rOk_in hf0 hf1 hi0 hi'
      have hw : IntKind.wrap .i64 (Int.ofNat i + 1) = Int.ofNat (i + 1) := by rw [wrap_in (by omega) (by omega)]; simp only [Int.ofNat_eq_natCast]; omega
      refine Tri.last hrun hr hN hk rfl (each_in f m i) ?_ (fun t' h' => .inl ⟨rfl, j - 1, by omega, i + 1, by omega, h', rfl⟩)
      refine hold_eq (by rw [hw]) (hold_eq ?_ (hold_b ?_ (hold_b ?_ (hold_b hok (hold_T hi' hold_nil)))))
      · unfold rUp; rw [hok, if_pos rfl, hw]
      · unfold rIs; rw [hok, if_pos rfl]; simp
      · rw [each_to hm hf0 hf1 hlt]; simp
    · have he : i = m + 1 := by omega
      subst he
      refine Tri.last hrun hr hN hk rfl (each_out f m (m + 1)) (hold_F (by omega) hold_nil) (fun t' h' => .inr ⟨by simp, ?_⟩)
      exact ⟨rfl, h', rfl⟩
  · rintro t' hp' ⟨_, hk, rfl⟩
    have hno : rOk f (Int.ofNat (m + 1)) (Int.ofNat (m + 1)) = false := by unfold rOk; simp
    refine Tri.step hrun hr hN hk rfl (each_end f m) ?_ (fun _ t3 h3 => ?_) (fun h => absurd rfl h)
    · refine hold_b ?_ (hold_b (by simp) (hold_b ?_ (hold_b hno hold_nil)))
      · unfold rUp; rw [hno]; simp
      · unfold rIs; rw [hno]; simp
    · exact Tri.run (M := m2) (n := 1) hrun hN (x := .ret) (t' := t3) (hp' := [blk f m (Int.ofNat (m + 1))]) rfl ⟨rfl, by simpa using h3, rfl⟩
  · rintro x t' hp' hx ⟨rfl, _⟩
    exact absurd rfl hx

theorem each_ok (a : Int) (m : Nat) (hm : m ≤ 255) (ha : 0 ≤ a) (ha2 : a ≤ 255) : FnOk Try.prog 5 [vU a, vU (Int.ofNat m)] [] vT [] := by
  refine fn_of_tri (fn := Try.f5) (c := eB) Try.func5 (by kernel_rfl) (show (80 : Nat) < 16383 by decide) ?_
  refine Tri.mono (each_tri a _ m hm ha ha2 rfl) ?_
  rintro x t hp1 ⟨rfl, h4, rfl⟩
  refine ⟨.inr rfl, ?_⟩
  have : resV Try.prog t [blk (a.tmod (Int.ofNat (m + 1))) m (Int.ofNat (m + 1))] Try.f5.results.toList = some [t.get 4] := by kernel_rfl
  rw [this, h4]
  exact (by kernel_rfl : gcV 0 vT [blk (a.tmod (Int.ofNat (m + 1))) m (Int.ofNat (m + 1))] = some (vT, []))
end Go.Proofs.Ytnbnheifgoipnaa
