/- SkipTurns: the call. -/
import Derived.Test.YtdahjdfjpckdcaaKtF
namespace Go.Proofs.Ytdahjdfjpckdcaa
open Go Go.Vm
set_option maxRecDepth 100000
theorem cmp3_mono {a b v : Int} (h : a ≤ b) : cmp3 a v ≤ cmp3 b v := by
  unfold cmp3; split <;> split <;> (try split) <;> (try split) <;> omega
theorem maskI_in {op c d nulls : Int} (h1 : 1 ≤ op) (h2 : op ≤ 6) (hc : c = -1 ∨ c = 0 ∨ c = 1) (hd : d = -1 ∨ d = 0 ∨ d = 1) (hcd : c ≤ d) (hn : nulls = 0 ∨ nulls = 1) : ∃ p : Nat, maskI op c d nulls = Int.ofNat p ∧ 0 < p ∧ p < 8 := by
  have h : op = 1 ∨ op = 2 ∨ op = 3 ∨ op = 4 ∨ op = 5 ∨ op = 6 := by omega
  have key : 1 ≤ maskI op c d nulls ∧ maskI op c d nulls < 8 := by
    rcases h with rfl | rfl | rfl | rfl | rfl | rfl <;> rcases hc with rfl | rfl | rfl <;> rcases hd with rfl | rfl | rfl <;> first | omega | (rcases hn with rfl | rfl <;> decide)
  obtain ⟨p, hp⟩ := Int.eq_ofNat_of_zero_le (show 0 ≤ maskI op c d nulls by omega)
  exact ⟨p, hp, by omega, by omega⟩
theorem tdiv_in {z k : Int} (hz : 0 ≤ z) (hz2 : z ≤ 255) (hk : 0 < k) : 0 ≤ z.tdiv k ∧ z.tdiv k ≤ 255 := by
  rw [Int.tdiv_eq_ediv_of_nonneg hz]
  exact ⟨Int.ediv_nonneg hz (by omega), Int.le_trans (Int.ediv_le_self _ hz) hz2⟩
theorem tmod_k {z k : Int} (hz : 0 ≤ z) (hk : 0 < k) : 0 ≤ z.tmod k ∧ z.tmod k < k := by
  rw [Int.tmod_eq_emod_of_nonneg hz]; exact ⟨Int.emod_nonneg _ (by omega), Int.emod_lt_of_pos _ hk⟩
theorem wrap_u8 {x : Int} (h1 : 0 ≤ x) (h2 : x ≤ 255) : IntKind.wrap .u8 x = x := by
  show (if (false && decide (x % 256 ≥ 128)) = true then x % 256 - 256 else x % 256) = x
  simp only [Bool.false_and, Bool.false_eq_true, if_false]
  omega
theorem fRun : RunOk Try.prog fV := orV_ok okF 60
theorem fRuns : RunsOk fV fS := orS_ok 60
theorem pairs_at {α : Type} {f g : Nat × Nat → α} (h : (pairs7.map f) = pairs7.map g) {p q : Nat} (hp : p < 8) (hp' : 0 < p) (hq : q < 8) (hq' : 0 < q) : f (p, q) = g (p, q) := List.map_inj_left.1 h _ (mem7 hp hp' hq hq')

theorem turns_tri {A B L N O : Int} (hA : -128 ≤ A ∧ A ≤ 127) (hB : -128 ≤ B ∧ B ≤ 127) (hL : -128 ≤ L ∧ L ≤ 127) (hN : 0 ≤ N ∧ N ≤ 255) (hO : 0 ≤ O ∧ O ≤ 255) :
    Tri Try.prog 170 0 tB (frameOf 0 [vI8 A, vI8 B, vI8 L, vU8 N, vU8 O] .lf) [] (fun x t _ => x = .ret ∧ t.get 10 = wB true) := by
  have h170 : 170 < 16383 := by decide
  obtain ⟨d1, d2⟩ := tmod_k (z := N) (k := 9) hN.1 (by omega)
  obtain ⟨q1, q2⟩ := tdiv_in (z := O) (k := 36) hO.1 hO.2 (by omega)
  obtain ⟨r1, r2⟩ := tdiv_in (z := O) (k := 6) hO.1 hO.2 (by omega)
  obtain ⟨e1, e2⟩ := tmod_k (z := O.tdiv 36) (k := 2) q1 (by omega)
  obtain ⟨s1, s2⟩ := tmod_k (z := O) (k := 6) hO.1 (by omega)
  obtain ⟨u1, u2⟩ := tmod_k (z := O.tdiv 6) (k := 6) r1 (by omega)
  have wA : IntKind.wrap .i64 A = A := wrap_in (by omega) (by omega)
  have wB' : IntKind.wrap .i64 B = B := wrap_in (by omega) (by omega)
  have wL : IntKind.wrap .i64 L = L := wrap_in (by omega) (by omega)
  have wd : IntKind.wrap .i64 (N.tmod 9) = N.tmod 9 := wrap_in (by omega) (by omega)
  have wb : IntKind.wrap .i64 (L + N.tmod 9) = L + N.tmod 9 := wrap_in (by omega) (by omega)
  have we : IntKind.wrap .i64 ((IntKind.wrap .u8 (O.tdiv 36)).tmod 2) = (O.tdiv 36).tmod 2 := by rw [wrap_u8 q1 q2, wrap_in (by omega) (by omega)]
  have wo : IntKind.wrap .i64 (1 + IntKind.wrap .i64 (O.tmod 6)) = 1 + O.tmod 6 := by rw [wrap_in (x := O.tmod 6) (by omega) (by omega), wrap_in (by omega) (by omega)]
  have wp : IntKind.wrap .i64 (1 + IntKind.wrap .i64 ((IntKind.wrap .u8 (O.tdiv 6)).tmod 6)) = 1 + (O.tdiv 6).tmod 6 := by rw [wrap_u8 r1 r2, wrap_in (x := (O.tdiv 6).tmod 6) (by omega) (by omega), wrap_in (by omega) (by omega)]
  have hab : L ≤ L + N.tmod 9 := by omega
  have ret : ∀ (t : Tr) (l : List Blk), t.get 10 = wB true → Tri Try.prog 170 0 .ret t l (fun x t _ => x = .ret ∧ t.get 10 = wB true) := fun t l h => Tri.run (M := mF) (n := 1) fRun h170 (x := .ret) (t' := t) (hp' := l) rfl ⟨rfl, h⟩
  generalize hb : L + N.tmod 9 = b at *
  generalize ho1 : 1 + O.tmod 6 = o1 at *
  generalize ho2 : 1 + (O.tdiv 6).tmod 6 = o2 at *
  have go1 : 1 ≤ o1 ∧ o1 ≤ 6 := by omega
  have go2 : 1 ≤ o2 ∧ o2 ≤ 6 := by omega
  rw [tB_eq]
  have hk0 : [0, 1, 2, 3, 4].map (frameOf 0 [vI8 A, vI8 B, vI8 L, vU8 N, vU8 O] .lf).get = [vI8 A, vI8 B, vI8 L, vU8 N, vU8 O] := rfl
  have hmask : ∀ nulls rows : Int, (nulls = 0 ∨ nulls = 1) → nulls < rows → (∃ p, maskA (leafC o1 A) (.lst 1 (statC rows nulls L b)) = some (Int.ofNat p) ∧ 0 < p ∧ p < 8) ∧ (∃ q, maskA (leafC o2 B) (.lst 1 (statC rows nulls L b)) = some (Int.ofNat q) ∧ 0 < q ∧ q < 8) := by
    intro nulls rows hn hr
    obtain ⟨p, hp, hp2⟩ := maskI_in go1.1 go1.2 (cmp3_mem L A) (cmp3_mem b A) (cmp3_mono hab) hn
    obtain ⟨q, hq, hq2⟩ := maskI_in go2.1 go2.2 (cmp3_mem L B) (cmp3_mem b B) (cmp3_mono hab) hn
    exact ⟨⟨p, by rw [maskA_eq ⟨go1.1, go1.2, hn, hr⟩, hp], hp2⟩, ⟨q, by rw [maskA_eq ⟨go2.1, go2.2, hn, hr⟩, hq], hq2⟩⟩
  have he : (O.tdiv 36).tmod 2 = 0 ∨ (O.tdiv 36).tmod 2 = 1 := by omega
  rcases he with he | he
  · obtain ⟨⟨p, hm, hp', hp⟩, ⟨q, hm', hq', hq⟩⟩ := hmask 0 2 (.inl rfl) (by omega)
    refine Tri.step fRun fRuns h170 hk0 rfl (pairs_at (tA_0 A B L N O L (N.tmod 9) b o1 A o2 B) hp hp' hq hq') ?_ (fun _ t1 k1 => ?_) (fun h => absurd rfl h)
    · exact hold_eq (oMay_leaf hm') (hold_eq (oMay_leaf hm) (hold_eq (by rw [wB']) (hold_eq (by rw [wp]) (hold_eq (by rw [wA]) (hold_eq (by rw [wo]) (hold_eq (oOf2_eq hab).1 (hold_eq (by rw [we, he]) (hold_eq (by rw [hb, wb]) (hold_eq (by rw [wd]) (hold_eq (by rw [wL]) (hold_eq (by rw [wL]) hold_nil)))))))))))
    refine Tri.step fRun fRuns h170 k1 rfl (pairs_at (tB_k _ _ _ _) hp hp' hq hq') hold_nil (fun _ t2 k2 => ?_) (fun h => absurd rfl h)
    refine Tri.step fRun fRuns h170 k2 rfl (pairs_at (tC_0 L b o1 A o2 B) hp hp' hq hq') ?_ (fun _ t3 k3 => ?_) (fun h => absurd rfl h)
    · exact hold_eq (oMay_or hm hm' hp hq) (hold_eq (oMay_and hm hm' hp hq) (hold_eq (oMay_not hm hp) hold_nil))
    exact ret t3 _ (by simpa using k3)
  · obtain ⟨⟨p, hm, hp', hp⟩, ⟨q, hm', hq', hq⟩⟩ := hmask 1 3 (.inr rfl) (by omega)
    refine Tri.step fRun fRuns h170 hk0 rfl (pairs_at (tA_1 A B L N O L (N.tmod 9) b o1 A o2 B) hp hp' hq hq') ?_ (fun _ t1 k1 => ?_) (fun h => absurd rfl h)
    · exact hold_eq (oMay_leaf hm') (hold_eq (oMay_leaf hm) (hold_eq (by rw [wB']) (hold_eq (by rw [wp]) (hold_eq (by rw [wA]) (hold_eq (by rw [wo]) (hold_eq (oOf2_eq hab).2 (hold_eq (by rw [we, he]) (hold_eq (by rw [hb, wb]) (hold_eq (by rw [wd]) (hold_eq (by rw [wL]) (hold_eq (by rw [wL]) hold_nil)))))))))))
    refine Tri.step fRun fRuns h170 k1 rfl (pairs_at (tB_k _ _ _ _) hp hp' hq hq') hold_nil (fun _ t2 k2 => ?_) (fun h => absurd rfl h)
    refine Tri.step fRun fRuns h170 k2 rfl (pairs_at (tC_1 L b o1 A o2 B) hp hp' hq hq') ?_ (fun _ t3 k3 => ?_) (fun h => absurd rfl h)
    · exact hold_eq (oMay_or hm hm' hp hq) (hold_eq (oMay_and hm hm' hp hq) (hold_eq (oMay_not hm hp) hold_nil))
    exact ret t3 _ (by simpa using k3)

theorem gc_true4 (l : List Blk) : gcV 0 (wB true) l = some (wB true, []) := by kernel_rfl
theorem res4 (t : Tr) (l : List Blk) : resV Try.prog t l Try.f4.results.toList = some [t.get 10] := by kernel_rfl
theorem turns_ok {A B L N O : Int} (hA : -128 ≤ A ∧ A ≤ 127) (hB : -128 ≤ B ∧ B ≤ 127) (hL : -128 ≤ L ∧ L ≤ 127) (hN : 0 ≤ N ∧ N ≤ 255) (hO : 0 ≤ O ∧ O ≤ 255) :
    FnOk Try.prog 4 [vI8 A, vI8 B, vI8 L, vU8 N, vU8 O] [] (wB true) [] := by
  refine fn_of_tri (fn := Try.f4) (c := tB) Try.func4 (by kernel_rfl) (show (170 : Nat) < 16383 by decide) ?_
  refine Tri.mono (turns_tri hA hB hL hN hO) ?_
  rintro x t hp1 ⟨rfl, h4⟩
  refine ⟨.inr rfl, ?_⟩
  rw [res4 t hp1, h4]
  exact gc_true4 hp1
end Go.Proofs.Ytdahjdfjpckdcaa
