/- The law ColNulls: walked. -/
import Derived.Test.YtdahjdfjpckdcaaOtF1
namespace Go.Proofs.Ytdahjdfjpckdcaa
open Go Go.Vm
set_option maxRecDepth 100000
theorem NX_flat (n : Nat) : (List.replicate n nulC).flatten = NX n := by
  induction n with
  | zero => rfl
  | succ n ih => rw [List.replicate_succ, List.flatten_cons, ih, NX, NX, List.replicate_succ]; rfl
theorem cells34 : cellsA (abs1 (Value.agg #[.int .i64 0, .int .i64 0, .string { data := { toList := [] } }, .complex .f64 0 0])) = nulC := by kernel_rfl
theorem imm_nulC : nulC.all imm0 = true := by kernel_rfl
theorem mkSl36 (m : Nat) (h : m ≤ 1000) : mkSl Try.prog 36 m [] = some (.val (.ref 0 0 0 m) [rvB (NX m) 0 false]) := by
  unfold mkSl
  have e2 : (NX m).all imm0 = true := by
    rw [← NX_flat, List.all_flatten, List.all_replicate]
    split
    · rfl
    · exact imm_nulC
  have e3 : nulC.length = 4 := by kernel_rfl
  simp only [elem36, sz34, bytes34, zero34, cells34, e2, e3, ble_of (show 48 * m ≤ 70368744177664 by omega), Nat.beq_refl, ble_of (Nat.le_refl m), NX_flat]
  rfl
theorem okCo {G : OvD} (hK : FnOk Try.prog 32 [] [] (wB true) []) (hG : ∀ args hp r hp', G args hp = some (r, hp') → FnOk Try.prog 33 args hp r hp') (f : FuncId) (K : OvD) (h : (mCo G).ov f = some K) (args : List AV) (hp : List Blk) (r : AV) (hp' : List Blk) (k : K args hp = some (r, hp')) : FnOk Try.prog f args hp r hp' := by
  rcases ov_cond h with ⟨rfl, rfl⟩ | h
  · exact of_yes hK k
  rcases ov_cond h with ⟨rfl, rfl⟩ | h
  · exact hG _ _ _ _ k
  cases h
theorem okCz (hK : FnOk Try.prog 32 [] [] (wB true) []) (f : FuncId) (K : OvD) (h : mCz.ov f = some K) (args : List AV) (hp : List Blk) (r : AV) (hp' : List Blk) (k : K args hp = some (r, hp')) : FnOk Try.prog f args hp r hp' := by
  rcases ov_cond h with ⟨rfl, rfl⟩ | h
  · exact of_yes hK k
  rcases ov_cond h with ⟨rfl, rfl⟩ | h
  · exact of_told k
  cases h
section
variable {G : OvD} (hR : RunOk Try.prog (orV Try.prog (mCo G) 60)) (hr : RunsOk (orV Try.prog (mCo G) 60) (orS Try.prog (mCo G) 60))
include hR hr
theorem co_tri {N D : Int} (hD : 0 ≤ D ∧ D ≤ 255) (k : Nat) (hk : N.tmod 70 = Int.ofNat k) (h0 : 1 ≤ k)
    (h1 : k ≤ 64 → outF (G [.lst k (NX k), wN (1 + D.tmod 3)] []) = .tup [.lst (2 + (k + 7) / 8) ([vB8 1, vB8 (Int.ofNat k)] ++ zE ((k + 7) / 8)), wN 1, wN 0])
    (h2 : 64 < k → outF (G [.lst k (NX k), wN (1 + D.tmod 3)] []) = .tup [nilS, wN 0, wN 4]) :
    Tri Try.prog 59 0 co (frameOf 0 [vB8 N, vB8 D] .lf) [] (fun x t _ => x = .ret ∧ t.get 4 = wB true) := by
  have hN' : 59 < 16383 := by decide
  have hk70 : k < 70 := by
    have : N.tmod 70 < 70 := Int.tmod_lt_of_pos _ (by decide)
    rw [hk] at this; simp only [Int.ofNat_eq_natCast] at this; omega
  have hD3 : 0 ≤ D.tmod 3 ∧ D.tmod 3 < 3 := ⟨Int.tmod_nonneg _ hD.1, Int.tmod_lt_of_pos _ (by decide)⟩
  have hq : 1 + D.tmod 3 ∈ Ks := by
    have : 1 + D.tmod 3 = 1 ∨ 1 + D.tmod 3 = 2 ∨ 1 + D.tmod 3 = 3 := by omega
    simpa [Ks] using this
  have wk : wN (IntKind.wrap .i64 (N.tmod 70)) = wN (Int.ofNat k) := by rw [hk, wrap_in (by simp only [Int.ofNat_eq_natCast]; omega) (by simp only [Int.ofNat_eq_natCast]; omega)]
  have wq : wN (IntKind.wrap .i64 (1 + IntKind.wrap .i64 (D.tmod 3))) = wN (1 + D.tmod 3) := by rw [wrap_in (x := D.tmod 3) (by omega) (by omega), wrap_in (by omega) (by omega)]
  rw [co_eq]
  refine Tri.step hR hr hN' (keep := [0, 1]) (vals := [vB8 N, vB8 D]) rfl rfl (co_pre G N D k (NX k)) (hold_eq (by rw [mkSl36 k (by omega)]; rfl) (hold_eq wk hold_nil)) (fun _ t1 k1 => ?_) (fun h => absurd rfl h)
  refine Tri.of_keep k1 rfl ?_
  refine Tri.frz (i := 6) (by decide) (v := .lst k (NX k)) (hp' := [rvB (NX k) 0 true]) ?_ ?_
  · exact frz_ref (hp := [rvB (NX k) 0 false]) (i := 0) (g := 0) (n := k) (b := rvB (NX k) 0 false) rfl rfl rfl (by show (NX k).length = k * 4; rw [NX, cellsO_len, List.length_replicate])
  refine Tri.drop (js := []) (l := []) rfl (by decide) (by simp) (sub := []) rfl (keep := [1, 5, 6]) (vals := [vB8 D, wN (Int.ofNat k), .lst k (NX k)]) rfl rfl (vals' := [vB8 D, wN (Int.ofNat k), .lst k (NX k)]) rfl ?_
  by_cases h64 : k ≤ 64
  · have wm : wN (IntKind.wrap .i64 (2 + IntKind.wrap .i64 ((IntKind.wrap .i64 (Int.ofNat k + 7)).tdiv 8))) = wN (Int.ofNat (2 + (k + 7) / 8)) := by
      rw [wrap_in (x := Int.ofNat k + 7) (by simp only [Int.ofNat_eq_natCast]; omega) (by simp only [Int.ofNat_eq_natCast]; omega), Int.tdiv_eq_ediv_of_nonneg (by simp only [Int.ofNat_eq_natCast]; omega),
        wrap_in (x := (Int.ofNat k + 7) / 8) (by simp only [Int.ofNat_eq_natCast]; omega) (by simp only [Int.ofNat_eq_natCast]; omega), wrap_in (by simp only [Int.ofNat_eq_natCast]; omega) (by simp only [Int.ofNat_eq_natCast]; omega)]
      simp only [Int.ofNat_eq_natCast]; congr 2
    have w5 : wN (IntKind.wrap .i64 (Int.ofNat k)) = wN (Int.ofNat k) := by rw [wrap_in (by simp only [Int.ofNat_eq_natCast]; omega) (by simp only [Int.ofNat_eq_natCast]; omega)]
    exact Tri.last hR hr hN' (keep := [1, 5, 6]) (vals := [vB8 D, wN (Int.ofNat k), .lst k (NX k)]) rfl rfl (List.map_inj_left.1 (co_in G D k ((k + 7) / 8) (NX k) (zE ((k + 7) / 8))) _ hq)
      (hold_T rfl (hold_eq w5 (hold_eq (ixO_eq (by omega)) (hold_T rfl (hold_eq wm (hold_F (by simp only [Int.ofNat_eq_natCast]; omega) (hold_eq (h1 h64) (hold_eq wq hold_nil)))))))) (fun t' h' => ⟨rfl, by simpa using h'⟩)
  · exact Tri.last hR hr hN' (keep := [1, 5, 6]) (vals := [vB8 D, wN (Int.ofNat k), .lst k (NX k)]) rfl rfl (List.map_inj_left.1 (co_long G D k (NX k)) _ hq)
      (hold_T (by simp only [Int.ofNat_eq_natCast]; omega) (hold_eq (h2 (by omega)) (hold_eq wq hold_nil))) (fun t' h' => ⟨rfl, by simpa using h'⟩)
end
theorem nulls_ok (hK : FnOk Try.prog 32 [] [] (wB true) []) {N D : Int} (hN : 0 ≤ N ∧ N ≤ 255) (hD : 0 ≤ D ∧ D ≤ 255) : FnOk Try.prog 10 [vB8 N, vB8 D] [] (wB true) [] := by
  have hD3 : 0 ≤ D.tmod 3 ∧ D.tmod 3 < 3 := ⟨Int.tmod_nonneg _ hD.1, Int.tmod_lt_of_pos _ (by decide)⟩
  have hq : 1 + D.tmod 3 ∈ Ks := by
    have : 1 + D.tmod 3 = 1 ∨ 1 + D.tmod 3 = 2 ∨ 1 + D.tmod 3 = 3 := by omega
    simpa [Ks] using this
  have wq : wN (IntKind.wrap .i64 (1 + IntKind.wrap .i64 (D.tmod 3))) = wN (1 + D.tmod 3) := by rw [wrap_in (x := D.tmod 3) (by omega) (by omega), wrap_in (by omega) (by omega)]
  obtain ⟨k, hk⟩ : ∃ k : Nat, N.tmod 70 = Int.ofNat k := Int.eq_ofNat_of_zero_le (Int.tmod_nonneg _ hN.1)
  by_cases h0 : k = 0
  · subst h0
    exact runV_ok (M := mCz) (okCz hK) 60 _ _ _ _ _ (runS_run (List.map_inj_left.1 (co_zero N D) _ hq) (hold_eq wq (hold_eq (by rw [hk]; rfl) hold_nil)))
  have key : ∀ G : OvD, (∀ args hp r hp', G args hp = some (r, hp') → FnOk Try.prog 33 args hp r hp') →
      (k ≤ 64 → outF (G [.lst k (NX k), wN (1 + D.tmod 3)] []) = .tup [.lst (2 + (k + 7) / 8) ([vB8 1, vB8 (Int.ofNat k)] ++ zE ((k + 7) / 8)), wN 1, wN 0]) →
      (64 < k → outF (G [.lst k (NX k), wN (1 + D.tmod 3)] []) = .tup [nilS, wN 0, wN 4]) → FnOk Try.prog 10 [vB8 N, vB8 D] [] (wB true) [] := by
    intro G hG g1 g2
    refine fn_of_tri (fn := Try.f10) (c := co) Try.func10 (by kernel_rfl) (show (59 : Nat) < 16383 by decide) ?_
    refine Tri.mono (co_tri (orV_ok (okCo hK hG) 60) (orS_ok 60) hD k hk (by omega) g1 g2) ?_
    rintro x t hp1 ⟨rfl, h4⟩
    refine ⟨.inr rfl, ?_⟩
    have e1 : resV Try.prog t hp1 Try.f10.results.toList = some [t.get 4] := by kernel_rfl
    rw [e1, h4]
    exact (by kernel_rfl : gcV 0 (wB true) hp1 = some (wB true, []))
  by_cases h64 : k ≤ 64
  · exact key (oneD _ _) (fun _ _ _ _ h => of_oneD (best_ok k (by omega) h64 (1 + D.tmod 3) (by omega) (by omega)) h) (fun _ => oneD_eq _ _) (fun h => by omega)
  · exact key (oneD _ _) (fun _ _ _ _ h => of_oneD (bestL_ok k (by omega) (1 + D.tmod 3) (by omega) (by omega)) h) (fun h => absurd h h64) (fun _ => oneD_eq _ _)
end Go.Proofs.Ytdahjdfjpckdcaa
