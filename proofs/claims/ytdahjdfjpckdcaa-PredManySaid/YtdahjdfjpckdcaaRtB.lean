/- PredMany: what comes of kids. -/
import Derived.Test.YtdahjdfjpckdcaaRtA
namespace Go.Proofs.Ytdahjdfjpckdcaa
open Go Go.Vm
set_option maxRecDepth 100000
theorem kidC_len (d : Nat) : (kidC d).length = 9 := by
  unfold kidC; split <;> rfl
theorem kidsC_len : ∀ ds : List Nat, (kidsC ds).length = ds.length * 9
  | [] => rfl
  | d :: ds => by
    have := kidsC_len ds
    unfold kidsC at this ⊢
    rw [List.flatMap_cons, List.length_append, kidC_len, this, List.length_cons]; omega
theorem kidsC_app (ds : List Nat) (d : Nat) : kidsC (ds ++ [d]) = kidsC ds ++ kidC d := by simp [kidsC]
theorem kidsC_cons (ds : List Nat) (d : Nat) : kidsC (d :: ds) = kidC d ++ kidsC ds := by simp [kidsC]
theorem kidsC_at : ∀ (ds : List Nat) (i : Nat) (h : i < ds.length), ldN (kidsC ds) (i * 9) 9 = some (kidC ds[i])
  | d :: ds, 0, _ => by
    unfold kidsC ldN
    rw [List.flatMap_cons]
    have e : ((kidC d ++ ds.flatMap kidC).drop (0 * 9)).take 9 = kidC d := by
      rw [Nat.zero_mul, List.drop_zero, List.take_append_of_le_length (by rw [kidC_len]; omega), List.take_of_length_le (by rw [kidC_len]; omega)]
    simp only [e, kidC_len]
    rfl
  | d :: ds, i + 1, h => by
    have ih := kidsC_at ds i (by simpa using h)
    unfold kidsC ldN at ih ⊢
    rw [List.flatMap_cons]
    have e : (kidC d ++ ds.flatMap kidC).drop ((i + 1) * 9) = (ds.flatMap kidC).drop (i * 9) := by
      have : (i + 1) * 9 = (kidC d).length + i * 9 := by rw [kidC_len]; omega
      rw [this, List.drop_append, List.drop_eq_nil_of_le (by omega), Nat.add_sub_cancel_left, List.nil_append]
    simp only [e, List.getElem_cons_succ]
    exact ih
theorem agg46 : isAggT Try.prog 46 = some true := by kernel_rfl
theorem sz46 : szT Try.prog 46 = some 9 := by kernel_rfl
theorem ldK_at {ds : List Nat} {i : Nat} (h : i < ds.length) (hp : List Blk) : ldO Try.prog 46 (kidsC ds) (i * 9) hp = .agg (kidC ds[i]) := by
  unfold ldO ld
  simp only [agg46, sz46, kidsC_at ds i h]
  rfl
/-- what comes of kids, one by one -/
def joinN (D : Nat) : Nat → List Nat → Nat
  | o, [] => o
  | o, d :: r => if d = D then D else if d = 2 then joinN D 2 r else joinN D o r
section
variable {A : OvR} (hR : RunOk Try.prog (jV A)) (hr : RunsOk (jV A) (jS A))
include hR hr
theorem jn_tri (ds : List Nat) (D : Nat) (hD : D ≤ 1) (h3 : ∀ d ∈ ds, d ≤ 2) (hA : ∀ d, d ≤ 2 → outF (A [.agg (kidC d), rowR] []) = wN (Int.ofNat d)) :
    ds.length ≤ 1000 → Tri Try.prog 32 0 jn (frameOf 0 [.lst ds.length (kidsC ds), rowR, wN (Int.ofNat D)] .lf) [] (fun x t _ => x = .ret ∧ t.get 6 = wN (Int.ofNat (joinN D (1 - D) ds))) := by
  intro hlen
  have hN : 32 < 16383 := by decide
  have hD2 : D ∈ [0, 1] := by
    have : D = 0 ∨ D = 1 := by omega
    simpa using this
  rw [jn_eq]
  refine Tri.step hR hr hN (keep := [0, 1, 2]) (vals := [.lst ds.length (kidsC ds), rowR, wN (Int.ofNat D)]) rfl rfl (List.map_inj_left.1 (jn_pre A (kidsC ds) ds.length) D hD2) hold_nil (fun _ t1 k1 => ?_) (fun h => absurd rfl h)
  refine Tri.seq (Mid := fun x t hp => (x = .nrm ∧ [7].map t.get = [wN (Int.ofNat (joinN D (1 - D) ds))]) ∨ (x = .ret ∧ t.get 6 = wN (Int.ofNat (joinN D (1 - D) ds)))) ?_ ?_ ?_
  · refine Tri.step hR hr hN (l := [cL (cL (cN 2 jn))]) (c := .block 0 (.loop jnB)) k1 rfl (jn_i0 A (kidsC ds) ds.length _ _) hold_nil (fun _ t2 k2 => ?_) (fun h => absurd rfl h)
    refine Tri.block (Tri.loop (fun j t hp => ∃ i o, i + j = ds.length ∧ [1, 2, 7, 13, 14, 15].map t.get = [rowR, wN (Int.ofNat D), wN (Int.ofNat o), .lst ds.length (kidsC ds), wN (Int.ofNat ds.length), wN (Int.ofNat i)] ∧ joinN D o (ds.drop i) = joinN D (1 - D) ds ∧ hp = []) ?_ (k := ds.length) ⟨0, 1 - D, by omega, k2, by rw [List.drop_zero], rfl⟩)
    rintro j t hp ⟨i, o, hi, hk, hJ, rfl⟩
    rw [jnB_eq]
    by_cases hlt : i < ds.length
    · have hd2 := h3 ds[i] (List.getElem_mem hlt)
      have hJ' : joinN D o (ds[i] :: ds.drop (i + 1)) = joinN D (1 - D) ds := by rw [← List.drop_eq_getElem_cons hlt]; exact hJ
      have hld := ldK_at hlt []
      generalize hdi : ds[i] = d at *
      by_cases hdD : d = D
      · rw [joinN, if_pos hdD] at hJ'
        subst hdD
        exact Tri.step hR hr hN hk rfl (List.map_inj_left.1 (jn_hit A (kidsC ds) ds.length i _) d hD2) (hold_eq (hA d (by omega)) (hold_eq hld (hold_eq (ixO_eq hlt) (hold_T (lt_of hlt) hold_nil)))) (fun h => by cases h) (fun _ t' k => .inr ⟨by simp, .inr ⟨rfl, by rw [← hJ']; simpa using k⟩⟩)
      · rw [joinN, if_neg hdD] at hJ'
        by_cases hu : d = 2
        · rw [if_pos hu] at hJ'
          subst hu
          refine Tri.step hR hr hN hk rfl (List.map_inj_left.1 (jn_un A (kidsC ds) ds.length i _) D hD2) (hold_eq (hA 2 (by omega)) (hold_eq hld (hold_eq (ixO_eq hlt) (hold_T (lt_of hlt) hold_nil)))) (fun _ t1 k3 => ?_) (fun h => absurd rfl h)
          refine Tri.drop (js := []) (l := []) rfl (by decide) (by simp) (sub := []) rfl k3 rfl (vals' := [rowR, wN (Int.ofNat D), wN 2, .lst ds.length (kidsC ds), wN (Int.ofNat ds.length), wN (Int.ofNat i)]) rfl ?_
          exact Tri.last hR hr hN (keep := [1, 2, 7, 13, 14, 15]) (vals := [rowR, wN (Int.ofNat D), wN 2, .lst ds.length (kidsC ds), wN (Int.ofNat ds.length), wN (Int.ofNat i)]) rfl rfl (jn_up A _ _ i _ _) (hold_eq (up_of (by omega)) hold_nil) (fun t' h' => .inl ⟨rfl, j - 1, by omega, i + 1, 2, by omega, h', hJ', rfl⟩)
        · rw [if_neg hu] at hJ'
          have e1 : d = 1 - D := by omega
          rw [e1] at hld
          refine Tri.step hR hr hN hk rfl (List.map_inj_left.1 (jn_not A (kidsC ds) ds.length i _) D hD2) (hold_eq (hA (1 - D) (by omega)) (hold_eq hld (hold_eq (ixO_eq hlt) (hold_T (lt_of hlt) hold_nil)))) (fun _ t1 k3 => ?_) (fun h => absurd rfl h)
          refine Tri.drop (js := []) (l := []) rfl (by decide) (by simp) (sub := []) rfl k3 rfl (vals' := [rowR, wN (Int.ofNat D), wN (Int.ofNat o), .lst ds.length (kidsC ds), wN (Int.ofNat ds.length), wN (Int.ofNat i)]) rfl ?_
          exact Tri.last hR hr hN (keep := [1, 2, 7, 13, 14, 15]) (vals := [rowR, wN (Int.ofNat D), wN (Int.ofNat o), .lst ds.length (kidsC ds), wN (Int.ofNat ds.length), wN (Int.ofNat i)]) rfl rfl (jn_up A _ _ i _ _) (hold_eq (up_of (by omega)) hold_nil) (fun t' h' => .inl ⟨rfl, j - 1, by omega, i + 1, o, by omega, h', hJ', rfl⟩)
    · have he : ds.drop i = [] := List.drop_eq_nil_of_le (by omega)
      rw [he, joinN] at hJ
      exact Tri.step hR hr hN hk rfl (jn_out A (kidsC ds) ds.length i _ _) (hold_F (by simp only [Int.ofNat_eq_natCast]; omega) hold_nil) (fun h => by cases h) (fun _ t' k => .inr ⟨by simp, .inl ⟨rfl, by rw [k, hJ]⟩⟩)
  · rintro t' hp' (⟨_, hk⟩ | ⟨h, _⟩)
    · refine Tri.step hR hr hN hk rfl (jn_end A _ _) hold_nil (fun _ t3 h3 => ?_) (fun h => absurd rfl h)
      exact Tri.run (M := mJn A) (n := 1) hR hN (x := .ret) (t' := t3) rfl ⟨rfl, by simpa using h3⟩
    · cases h
  · rintro x t' hp' hx (⟨rfl, _⟩ | h)
    · exact absurd rfl hx
    · exact h
end
theorem okJn {A : OvR} (hA : ∀ args hp r hp', A args hp = some (r, hp') → FnOk Try.prog 21 args hp r hp') (f : FuncId) (K : OvR) (h : (mJn A).ov f = some K) (args : List AV) (hp : List Blk) (r : AV) (hp' : List Blk) (k : K args hp = some (r, hp')) : FnOk Try.prog f args hp r hp' := by
  rcases ov_cond h with ⟨rfl, rfl⟩ | h
  · exact hA _ _ _ _ k
  cases h
abbrev kidT : List (List AV × AV) := [([.agg (kidC 0), rowR], wN 0), ([.agg (kidC 1), rowR], wN 1), ([.agg (kidC 2), rowR], wN 2)]
theorem kidT_ok : ∀ q ∈ kidT, FnOk Try.prog 21 q.1 [] q.2 [] := by
  intro q hq
  simp only [kidT, List.mem_cons, List.not_mem_nil, or_false] at hq
  rcases hq with rfl | rfl | rfl
  · exact kid0
  · exact kid1
  · exact kid2
theorem kidT_eq (d : Nat) (h : d ≤ 2) : outF (tblR kidT [.agg (kidC d), rowR] []) = wN (Int.ofNat d) := by
  have : d = 0 ∨ d = 1 ∨ d = 2 := by omega
  rcases this with rfl | rfl | rfl
  · exact tblR_hit _ _ _
  · rw [tblR_miss _ _ (by simp [kidC])]; exact tblR_hit _ _ _
  · rw [tblR_miss _ _ (by simp [kidC]), tblR_miss _ _ (by simp [kidC])]; exact tblR_hit _ _ _
theorem join_ok (ds : List Nat) (D : Nat) (hD : D ≤ 1) (h3 : ∀ d ∈ ds, d ≤ 2) (hl : ds.length ≤ 1000) : FnOk Try.prog 46 [.lst ds.length (kidsC ds), rowR, wN (Int.ofNat D)] [] (wN (Int.ofNat (joinN D (1 - D) ds))) [] := by
  refine fn_of_tri (fn := Try.f46) (c := jn) Try.func46 (by kernel_rfl) (show (32 : Nat) < 16383 by decide) ?_
  refine Tri.mono (jn_tri (A := tblR kidT) (orV_ok (okJn (fun _ _ _ _ k => of_tblR kidT_ok k)) 60) (orS_ok 60) ds D hD h3 kidT_eq hl) ?_
  rintro x t hp1 ⟨rfl, h4⟩
  refine ⟨.inr rfl, ?_⟩
  have e1 : resV Try.prog t hp1 Try.f46.results.toList = some [t.get 6] := by kernel_rfl
  rw [e1, h4]
  generalize joinN D (1 - D) ds = v
  exact (by kernel_rfl : gcV 0 (wN (Int.ofNat v)) hp1 = some (wN (Int.ofNat v), []))
end Go.Proofs.Ytdahjdfjpckdcaa
