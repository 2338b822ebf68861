/- PredMany: the law, walked whole. -/
import Derived.Test.YtdahjdfjpckdcaaRtE
import Derived.Test.YtdahjdfjpckdcaaPtB
namespace Go.Proofs.Ytdahjdfjpckdcaa
open Go Go.Vm
set_option maxRecDepth 100000
theorem joinN_eq (D : Nat) (hD : D ≤ 1) : ∀ (ds : List Nat) (o : Nat), joinN D o ds = if D ∈ ds then D else if 2 ∈ ds then 2 else o
  | [], o => by simp [joinN]
  | d :: r, o => by
    unfold joinN
    by_cases h : d = D
    · rw [if_pos h, if_pos (by simp [h])]
    · rw [if_neg h]
      have e1 : D ∈ d :: r ↔ D ∈ r := by simp [Ne.symm h]
      by_cases k : d = 2
      · rw [if_pos k, joinN_eq D hD r 2]
        have e2 : 2 ∈ d :: r := by simp [k]
        by_cases m : D ∈ r
        · rw [if_pos m, if_pos (e1.2 m)]
        · rw [if_neg m, if_neg (mt e1.1 m), if_pos e2, ite_self]
      · rw [if_neg k, joinN_eq D hD r o]
        have e2 : 2 ∈ d :: r ↔ 2 ∈ r := by simp [Ne.symm k]
        by_cases m : D ∈ r
        · rw [if_pos m, if_pos (e1.2 m)]
        · rw [if_neg m, if_neg (mt e1.1 m)]
          by_cases m2 : 2 ∈ r
          · rw [if_pos m2, if_pos (e2.2 m2)]
          · rw [if_neg m2, if_neg (mt e2.1 m2)]
theorem an_eq (ds : List Nat) : joinN 0 1 ds = anN (decide (0 ∈ ds)) (decide (2 ∈ ds)) := by
  rw [joinN_eq 0 (by omega)]
  unfold anN
  by_cases h : 0 ∈ ds
  · rw [if_pos h, decide_eq_true h]; rfl
  · rw [if_neg h, decide_eq_false h]
    by_cases k : 2 ∈ ds
    · rw [if_pos k, decide_eq_true k]; rfl
    · rw [if_neg k, decide_eq_false k]; rfl
theorem or_eq (ds : List Nat) : joinN 1 0 ds = orN (decide (1 ∈ ds)) (decide (2 ∈ ds)) := by
  rw [joinN_eq 1 (by omega)]
  unfold orN
  by_cases h : 1 ∈ ds
  · rw [if_pos h, decide_eq_true h]; rfl
  · rw [if_neg h, decide_eq_false h]
    by_cases k : 2 ∈ ds
    · rw [if_pos k, decide_eq_true k]; rfl
    · rw [if_neg k, decide_eq_false k]; rfl
open Classical in
noncomputable def oneR (A : List AV) (v : AV) : OvR := tblR [(A, v)]
theorem evA_ok (ds : List Nat) (h3 : ∀ d ∈ ds, d ≤ 2) (hl : ds.length ≤ 1000) : FnOk Try.prog 21 [.agg (nodeC 9 (.lst ds.length (kidsC ds))), rowR] [] (wN (Int.ofNat (joinN 0 1 ds))) [] := by
  have hT : ∀ q ∈ [([AV.lst ds.length (kidsC ds), rowR, wN 0], wN (Int.ofNat (joinN 0 1 ds)))], FnOk Try.prog 46 q.1 [] q.2 [] := by
    intro q hq
    simp only [List.mem_cons, List.not_mem_nil, or_false] at hq
    subst hq
    exact join_ok ds 0 (by omega) h3 hl
  exact runV_ok (M := mEv (tblR _)) (okEv (fun _ _ _ _ k => of_tblR hT k)) 60 _ _ _ _ _ (runS_run (ev_and (tblR [([AV.lst ds.length (kidsC ds), rowR, wN 0], wN (Int.ofNat (joinN 0 1 ds)))]) ds.length (joinN 0 1 ds) (kidsC ds)) (hold_eq (tblR_hit _ _ _) hold_nil))
theorem evO_ok (ds : List Nat) (h3 : ∀ d ∈ ds, d ≤ 2) (hl : ds.length ≤ 1000) : FnOk Try.prog 21 [.agg (nodeC 10 (.lst ds.length (kidsC ds))), rowR] [] (wN (Int.ofNat (joinN 1 0 ds))) [] := by
  have hT : ∀ q ∈ [([AV.lst ds.length (kidsC ds), rowR, wN 1], wN (Int.ofNat (joinN 1 0 ds)))], FnOk Try.prog 46 q.1 [] q.2 [] := by
    intro q hq
    simp only [List.mem_cons, List.not_mem_nil, or_false] at hq
    subst hq
    exact join_ok ds 1 (by omega) h3 hl
  exact runV_ok (M := mEv (tblR _)) (okEv (fun _ _ _ _ k => of_tblR hT k)) 60 _ _ _ _ _ (runS_run (ev_or (tblR [([AV.lst ds.length (kidsC ds), rowR, wN 1], wN (Int.ofNat (joinN 1 0 ds)))]) ds.length (joinN 1 0 ds) (kidsC ds)) (hold_eq (tblR_hit _ _ _) hold_nil))
theorem tblR_look {A : List AV} {v : AV} : ∀ {T : List (List AV × AV)}, (∃ q ∈ T, q.1 = A) → (∀ q ∈ T, q.1 = A → q.2 = v) → outF (tblR T A []) = v
  | [], h, _ => by obtain ⟨q, hq, _⟩ := h; simp at hq
  | (B, u) :: T, h, k => by
    by_cases e : A = B
    · subst e
      rw [tblR_hit]; exact k (A, u) (List.mem_cons_self ..) rfl
    · rw [tblR_miss _ _ e]
      refine tblR_look ?_ (fun q hq => k q (by simp [hq]))
      obtain ⟨q, hq, rfl⟩ := h
      rcases List.mem_cons.1 hq with rfl | hq
      · exact absurd rfl e
      · exact ⟨q, hq, rfl⟩
theorem node_ne {x y : AV} (h : ([.agg (nodeC 9 x), rowR] : List AV) = [.agg (nodeC 10 y), rowR]) : False := by simp [nodeC] at h
section
variable {E : OvR} (hR : RunOk Try.prog (pmV E)) (hr : RunsOk (pmV E) (pmS E))
include hR hr
theorem pm_tri {zs : List Int} (hz : ∀ z ∈ zs, 0 ≤ z) {ds : List Nat} (hds : ds = zs.map dOf)
    (e1 : outF (E [.agg (nodeC 9 (.lst ds.length (kidsC ds))), rowR] []) = wN (Int.ofNat (joinN 0 1 ds))) (e2 : outF (E [.agg (nodeC 10 (.lst ds.length (kidsC ds))), rowR] []) = wN (Int.ofNat (joinN 1 0 ds)))
    (e3 : outF (E [.agg (nodeC 9 (.lst ds.length (kidsC ds.reverse))), rowR] []) = wN (Int.ofNat (joinN 0 1 ds.reverse))) (e4 : outF (E [.agg (nodeC 10 (.lst ds.length (kidsC ds.reverse))), rowR] []) = wN (Int.ofNat (joinN 1 0 ds.reverse))) :
    Tri Try.prog 111 0 pm (frameOf 0 [.lst zs.length (zs.map vR8)] .lf) [] (fun x t _ => x = .ret ∧ t.get 2 = wB true) := by
  have hN : 111 < 16383 := by decide
  have hlen : ds.length = zs.length := by rw [hds, List.length_map]
  rw [pm_eq]
  by_cases h2 : zs.length < 2
  · exact Tri.step hR hr hN (keep := [0]) (vals := [.lst zs.length (zs.map vR8)]) rfl rfl (pm_few E (zs.map vR8) zs.length) (hold_T (by simp only [Int.ofNat_eq_natCast]; omega) hold_nil) (fun h => by cases h) (fun _ t k => ⟨rfl, by simpa using k⟩)
  by_cases h8 : 8 < zs.length
  · exact Tri.step hR hr hN (keep := [0]) (vals := [.lst zs.length (zs.map vR8)]) rfl rfl (pm_long E (zs.map vR8) zs.length) (hold_T (by simp only [Int.ofNat_eq_natCast]; omega) (hold_F (by simp only [Int.ofNat_eq_natCast]; omega) hold_nil)) (fun h => by cases h) (fun _ t k => ⟨rfl, by simpa using k⟩)
  refine Tri.step hR hr hN (keep := [0]) (vals := [.lst zs.length (zs.map vR8)]) rfl rfl (pm_pre E (zs.map vR8) zs.length) (hold_F (by simp only [Int.ofNat_eq_natCast]; omega) (hold_F (by simp only [Int.ofNat_eq_natCast]; omega) hold_nil)) (fun _ t1 k1 => ?_) (fun h => absurd rfl h)
  rw [← hlen] at k1
  refine Tri.seq (Mid := fun x t hp => x = .nrm ∧ ∃ s4 s5, pK.map t.get = pS (zs.map vR8) ds.length s4 s5 (fB ds ds.length 0) (fB ds ds.length 1) (fB ds ds.length 2) ds.length ∧ pmI ds ds.length s4 s5 hp) ?_ ?_ ?_
  · refine Tri.step hR hr hN (l := [cL (cL (cN 6 pm))]) (c := .block 0 (.loop pmB)) k1 rfl (pm_i0 E (zs.map vR8) ds.length) hold_nil (fun _ t2 k2 => ?_) (fun h => absurd rfl h)
    refine Tri.block (Tri.loop (fun j t hp => ∃ i s4 s5, i + j = ds.length ∧ pK.map t.get = pS (zs.map vR8) ds.length s4 s5 (fB ds i 0) (fB ds i 1) (fB ds i 2) i ∧ pmI ds i s4 s5 hp) ?_ (k := ds.length) ⟨0, nilS, nilS, by omega, k2, .inl ⟨rfl, rfl, rfl, rfl⟩⟩)
    rintro j t hp ⟨i, s4, s5, hi, hk, hI⟩
    rw [pmB_eq]
    by_cases hlt : i < ds.length
    · refine Tri.step hR hr hN hk rfl (pm_in E _ _ i _ _ _ _ _ hp) (hold_T (lt_of hlt) hold_nil) (fun _ t3 k3 => ?_) (fun h => absurd rfl h)
      refine Tri.seq (Mid := fun x t hp => x = .nrm ∧ pmJ ds i (zs.map vR8) ds.length t hp) ?_ ?_ ?_
      · refine Tri.block (Tri.mono (pm_round hR hr hz hds (by omega) hlt k3 hI) ?_)
        rintro x t' hp' ⟨rfl, h⟩
        exact ⟨rfl, h⟩
      · rintro t4 hp4 ⟨_, s4', s5', js, sub, u4, u5, q1, q2, q3', q4, q5, q6⟩
        refine Tri.drop (js := js) (l := js) rfl q2 q3' (sub := sub) q4 q1 rfl (vals' := pS (zs.map vR8) ds.length u4 u5 (fB ds (i + 1) 0) (fB ds (i + 1) 1) (fB ds (i + 1) 2) i) q5 ?_
        exact Tri.last hR hr hN (keep := pK) (vals := pS (zs.map vR8) ds.length u4 u5 (fB ds (i + 1) 0) (fB ds (i + 1) 1) (fB ds (i + 1) 2) i) rfl rfl (pm_up E _ _ i _ _ _ _ _ sub) (hold_eq (up_of (by omega)) hold_nil) (fun t' h' => .inl ⟨rfl, j - 1, by omega, i + 1, u4, u5, by omega, h', q6⟩)
      · rintro x t4 hp4 hx ⟨rfl, _⟩
        exact absurd rfl hx
    · have he : i = ds.length := by omega
      subst he
      exact Tri.step hR hr hN hk rfl (pm_out E _ _ _ _ _ _ _ _ hp) (hold_F (by simp only [Int.ofNat_eq_natCast]; omega) hold_nil) (fun h => by cases h) (fun _ t' k => .inr ⟨by simp, rfl, s4, s5, k, hI⟩)
  · rintro t' hp' ⟨_, s4, s5, hk, hI⟩
    rcases hI with ⟨h, _⟩ | ⟨h, _⟩ | ⟨_, g, e, rfl, rfl, rfl⟩
    · omega
    · omega
    rw [List.take_length] at *
    have f0 : fB ds ds.length 0 = wB (decide (0 ∈ ds)) := by rw [fB, List.take_length]
    have f1 : fB ds ds.length 1 = wB (decide (1 ∈ ds)) := by rw [fB, List.take_length]
    have f2 : fB ds ds.length 2 = wB (decide (2 ∈ ds)) := by rw [fB, List.take_length]
    rw [f0, f1, f2] at hk
    refine Tri.of_keep hk rfl ?_
    refine Tri.frz (i := 4) (by decide) (v := .lst ds.length (kidsC ds)) (hp' := [{ kB (kidsC ds) g with ro := true }, kB (kidsC ds.reverse) e]) ?_ ?_
    · exact frz_ref (hp := [kB (kidsC ds) g, kB (kidsC ds.reverse) e]) (i := 0) (g := g) (n := ds.length) (b := kB (kidsC ds) g) rfl rfl rfl (kidsC_len ds)
    refine Tri.frz (i := 5) (by decide) (v := .lst ds.length (kidsC ds.reverse)) (hp' := [{ kB (kidsC ds) g with ro := true }, { kB (kidsC ds.reverse) e with ro := true }]) ?_ ?_
    · exact frz_ref (hp := [{ kB (kidsC ds) g with ro := true }, kB (kidsC ds.reverse) e]) (i := 1) (g := e) (n := ds.length) (b := kB (kidsC ds.reverse) e) rfl rfl rfl (by show (kidsC ds.reverse).length = ds.length * 9; rw [kidsC_len, List.length_reverse])
    refine Tri.drop (js := []) (l := []) rfl (by decide) (by simp) (sub := []) rfl (keep := [3, 4, 5, 6, 7, 8]) (vals := [rowL, .lst ds.length (kidsC ds), .lst ds.length (kidsC ds.reverse), wB (decide (0 ∈ ds)), wB (decide (1 ∈ ds)), wB (decide (2 ∈ ds))]) rfl rfl (vals' := [rowL, .lst ds.length (kidsC ds), .lst ds.length (kidsC ds.reverse), wB (decide (0 ∈ ds)), wB (decide (1 ∈ ds)), wB (decide (2 ∈ ds))]) rfl ?_
    rw [an_eq] at e1 e3
    rw [or_eq] at e2 e4
    simp only [List.mem_reverse] at e3 e4
    obtain ⟨orc, st, q1, q2⟩ := pm_endX E (kidsC ds) (kidsC ds.reverse) ds.length (decide (0 ∈ ds)) (decide (1 ∈ ds)) (decide (2 ∈ ds)) e1 e2 e3 e4
    exact Tri.last hR hr hN (keep := [3, 4, 5, 6, 7, 8]) (vals := [rowL, .lst ds.length (kidsC ds), .lst ds.length (kidsC ds.reverse), wB (decide (0 ∈ ds)), wB (decide (1 ∈ ds)), wB (decide (2 ∈ ds))]) rfl rfl q1 q2 (fun t' h' => ⟨rfl, by simpa using h'⟩)
  · rintro x t' hp' hx ⟨rfl, _⟩
    exact absurd rfl hx
end
theorem many_ok {zs : List Int} (hz : ∀ z ∈ zs, 0 ≤ z) : FnOk Try.prog 8 [.lst zs.length (zs.map vR8)] [] (wB true) [] := by
  generalize hds : zs.map dOf = ds
  have h3 : ∀ d ∈ ds, d ≤ 2 := by
    intro d hd
    subst hds
    obtain ⟨z, hz', rfl⟩ := List.mem_map.1 hd
    have := (dOf_ok (hz z hz')).1
    simp only [q3, List.mem_cons, List.not_mem_nil, or_false] at this
    omega
  have h3r : ∀ d ∈ ds.reverse, d ≤ 2 := fun d hd => h3 d (List.mem_reverse.1 hd)
  have hlen : ds.length = zs.length := by rw [← hds, List.length_map]
  have key : ∀ E : OvR, (∀ args hp r hp', E args hp = some (r, hp') → FnOk Try.prog 21 args hp r hp') → (Tri Try.prog 111 0 pm (frameOf 0 [.lst zs.length (zs.map vR8)] .lf) [] (fun x t _ => x = .ret ∧ t.get 2 = wB true)) → FnOk Try.prog 8 [.lst zs.length (zs.map vR8)] [] (wB true) [] := by
    intro E hE hT
    refine fn_of_tri (fn := Try.f8) (c := pm) Try.func8 (by kernel_rfl) (show (111 : Nat) < 16383 by decide) ?_
    refine Tri.mono hT ?_
    rintro x t hp1 ⟨rfl, h4⟩
    refine ⟨.inr rfl, ?_⟩
    have e1 : resV Try.prog t hp1 Try.f8.results.toList = some [t.get 2] := by kernel_rfl
    rw [e1, h4]
    exact (by kernel_rfl : gcV 0 (wB true) hp1 = some (wB true, []))
  by_cases hl : zs.length ≤ 8
  · have hT : ∀ q ∈ [([AV.agg (nodeC 9 (.lst ds.length (kidsC ds))), rowR], wN (Int.ofNat (joinN 0 1 ds))), ([AV.agg (nodeC 10 (.lst ds.length (kidsC ds))), rowR], wN (Int.ofNat (joinN 1 0 ds))), ([AV.agg (nodeC 9 (.lst ds.length (kidsC ds.reverse))), rowR], wN (Int.ofNat (joinN 0 1 ds.reverse))), ([AV.agg (nodeC 10 (.lst ds.length (kidsC ds.reverse))), rowR], wN (Int.ofNat (joinN 1 0 ds.reverse)))], FnOk Try.prog 21 q.1 [] q.2 [] := by
      intro q hq
      simp only [List.mem_cons, List.not_mem_nil, or_false] at hq
      have hlr : ds.reverse.length = ds.length := List.length_reverse ..
      rcases hq with rfl | rfl | rfl | rfl
      · exact evA_ok ds h3 (by omega)
      · exact evO_ok ds h3 (by omega)
      · have := evA_ok ds.reverse h3r (by omega)
        rw [hlr] at this; exact this
      · have := evO_ok ds.reverse h3r (by omega)
        rw [hlr] at this; exact this
    have jr : joinN 0 1 ds.reverse = joinN 0 1 ds ∧ joinN 1 0 ds.reverse = joinN 1 0 ds := by
      refine ⟨?_, ?_⟩
      · rw [an_eq, an_eq]; simp only [List.mem_reverse]
      · rw [or_eq, or_eq]; simp only [List.mem_reverse]
    refine key (tblR _) (fun _ _ _ _ k => of_tblR hT k) (pm_tri (orV_ok (okPm known24 (fun _ _ _ _ k => of_tblR hT k)) 60) (orS_ok 60) hz hds.symm ?_ ?_ ?_ ?_)
    · refine tblR_look ⟨_, .head _, rfl⟩ (fun q hq e => ?_)
      simp only [List.mem_cons, List.not_mem_nil, or_false] at hq
      rcases hq with rfl | rfl | rfl | rfl
      · rfl
      · exact (node_ne e.symm).elim
      · simp only [jr.1]
      · exact (node_ne e.symm).elim
    · refine tblR_look ⟨_, .tail _ (.head _), rfl⟩ (fun q hq e => ?_)
      simp only [List.mem_cons, List.not_mem_nil, or_false] at hq
      rcases hq with rfl | rfl | rfl | rfl
      · exact (node_ne e).elim
      · rfl
      · exact (node_ne e).elim
      · simp only [jr.2]
    · refine tblR_look ⟨_, .tail _ (.tail _ (.head _)), rfl⟩ (fun q hq e => ?_)
      simp only [List.mem_cons, List.not_mem_nil, or_false] at hq
      rcases hq with rfl | rfl | rfl | rfl
      · simp only [jr.1]
      · exact (node_ne e.symm).elim
      · rfl
      · exact (node_ne e.symm).elim
    · refine tblR_look ⟨_, .tail _ (.tail _ (.tail _ (.head _))), rfl⟩ (fun q hq e => ?_)
      simp only [List.mem_cons, List.not_mem_nil, or_false] at hq
      rcases hq with rfl | rfl | rfl | rfl
      · exact (node_ne e).elim
      · simp only [jr.2]
      · exact (node_ne e).elim
      · rfl
  · have hov := okPm (E := fun _ _ => none) known24 (fun _ _ _ _ k => by cases k)
    refine key (fun _ _ => none) (fun _ _ _ _ k => by cases k) ?_
    have hN : 111 < 16383 := by decide
    rw [pm_eq]
    exact Tri.step (orV_ok hov 60) (orS_ok 60) hN (keep := [0]) (vals := [.lst zs.length (zs.map vR8)]) rfl rfl (pm_long _ (zs.map vR8) zs.length) (hold_T (by simp only [Int.ofNat_eq_natCast]; omega) (hold_F (by simp only [Int.ofNat_eq_natCast]; omega) hold_nil)) (fun h => by cases h) (fun _ t k => ⟨rfl, by simpa using k⟩)
end Go.Proofs.Ytdahjdfjpckdcaa
