/- Nulls in bytes, in one way: what Put tells. -/
import Derived.Test.YtdahjdfjpckdcaaOtC
namespace Go.Proofs.Ytdahjdfjpckdcaa
open Go Go.Vm
set_option maxRecDepth 100000
theorem elem196 : elemT Try.prog 196 = some 159 := by kernel_rfl
theorem sz159 : szT Try.prog 159 = some 1 := by kernel_rfl
theorem bytes159 : bytesT Try.prog 159 = some 8 := by kernel_rfl
theorem zero159 : zeroT Try.prog 159 = some (.int .u64 0) := by kernel_rfl
theorem src196 : (srcT Try.prog 196 1 (.lit 1 [v64 0]) && Nat.ble 1 1 && Nat.ble 1 8 && Nat.beq (cellsA (abs1 (Value.int .u64 0))).length 1 && Nat.beq [v64 0].length (1 * 1) && [v64 0].all imm0 && [v64 0].all one) = true := by kernel_rfl
theorem app196 {hp : List Blk} {i g k : Nat} (hb : hp[i]? = some (zr (ZX k) g)) (hlt : k < 1000) :
    appendV Try.prog hp 196 196 (.ref i g 0 k) (.lit 1 [v64 0]) = some (.val (.ref i (g + 1) 0 (k + 1)) (hp.set i (zr (ZX k ++ [v64 0]) (g + 1)))) :=
  append_ref (P := Try.prog) (hp := hp) (st := 196) (xt := 196) (i := i) (g := g) (n := k) (m := 1) (x := .lit 1 [v64 0]) (new := [v64 0]) elem196 sz159 bytes159 zero159 rfl src196 hb rfl rfl rfl rfl (by omega) (by simp)
theorem src22 (x : AV) (h : x = .lst 0 [] ∨ x = .lit 1 [vB8 0] ∨ (∃ m c, x = .lst m c) ∨ x = nilS) : srcT Try.prog 22 1 x = true := by
  rcases h with rfl | rfl | ⟨m, c, rfl⟩ | rfl
  · kernel_rfl
  · kernel_rfl
  · exact (by kernel_rfl : srcT Try.prog 22 1 (.lst m c) = true)
  · kernel_rfl
theorem app22 {Y E : List AV} {g k e : Nat} {x : AV} (hk : Y.length = k) (he : E.length = e) (hx : elemsOf [zr Y g] x = some (e, E)) (hs : srcT Try.prog 22 1 x = true) (hz : ∀ v ∈ E, v = vB8 0) (hlt : k + e < 1000) :
    appendV Try.prog [zr Y g] 22 22 (.ref 0 g 0 k) x = some (.val (.ref 0 (g + 1) 0 (k + e)) [zr (Y ++ E) (g + 1)]) := by
  have a1 : E.all imm0 = true := List.all_eq_true.2 (fun v hv => by rw [hz v hv]; rfl)
  have a2 : E.all one = true := List.all_eq_true.2 (fun v hv => by rw [hz v hv]; rfl)
  have a3 : Nat.beq E.length (e * 1) = true := by rw [he, Nat.mul_one]; exact Nat.beq_refl e
  have a4 : (cellsA (abs1 (Value.int .u8 0))).length = 1 := rfl
  exact append_ref (P := Try.prog) (hp := [zr Y g]) (st := 22) (xt := 22) (i := 0) (g := g) (n := k) (m := e) (x := x) (new := E) elem22 sz5 bytes5 zero5 hx (by rw [hs, a1, a2, a3, a4]; rfl) rfl rfl rfl rfl rfl (by omega) (by rw [Nat.mul_one]; exact hk)
abbrev zE (e : Nat) : List AV := List.replicate e (vB8 0)
/-- how many bytes behind the Nulls' bits -/
def eH (H : Int) : List AV := if H = 3 then [vB8 0] else if H = 4 then [vB8 0, vB8 0] else []
abbrev putL (n : Nat) (H : Int) : List AV := (([vB8 H, vB8 (Int.ofNat n)] ++ zE ((n + 7) / 8)) ++ eH H)
theorem eH1 : eH 1 = [] := by unfold eH; simp
theorem eH2 : eH 2 = [] := by unfold eH; simp
theorem eH3 : eH 3 = [vB8 0] := by unfold eH; simp
theorem eH4 : eH 4 = [vB8 0, vB8 0] := by unfold eH; simp
theorem wU64 {n : Nat} (h : n ≤ 64) : IntKind.wrap .u64 (Int.ofNat n) = Int.ofNat n := by
  show (if (false && decide ((Int.ofNat n) % 18446744073709551616 ≥ 9223372036854775808)) = true then (Int.ofNat n) % 18446744073709551616 - 18446744073709551616 else (Int.ofNat n) % 18446744073709551616) = _
  simp only [Bool.false_and, Bool.false_eq_true, if_false, Int.ofNat_eq_natCast]; omega
theorem wU8 {n : Nat} (h : n ≤ 64) : IntKind.wrap .u8 (Int.ofNat n) = Int.ofNat n := by
  show (if (false && decide ((Int.ofNat n) % 256 ≥ 128)) = true then (Int.ofNat n) % 256 - 256 else (Int.ofNat n) % 256) = _
  simp only [Bool.false_and, Bool.false_eq_true, if_false, Int.ofNat_eq_natCast]; omega
section
variable {A B C : OvD} (hR : RunOk Try.prog (qV A B C)) (hr : RunsOk (qV A B C) (qS A B C))
include hR
theorem pt_fin {t : Tr} {L : Nat} {cs : List AV} (hL : cs.length = L) (hk : [6, 7].map t.get = [.ref 0 3 0 L, wN 0]) : Tri Try.prog 65 0 .ret t [zr cs 3] (fun x t _ => x = .ret ∧ t.get 6 = .lst L cs ∧ t.get 7 = wN 0) := by
  have hN : 65 < 16383 := by decide
  refine Tri.of_keep hk rfl ?_
  refine Tri.frz (i := 6) (by decide) (v := .lst L cs) (hp' := [{ zr cs 3 with ro := true }]) ?_ ?_
  · exact frz_ref (hp := [zr cs 3]) (i := 0) (g := 3) (n := L) (b := zr cs 3) rfl rfl rfl (by simp only [Nat.mul_one]; exact hL)
  exact Tri.run (M := mQ A B C) (n := 1) hR hN (x := .ret) rfl ⟨rfl, rfl, rfl⟩
include hr
theorem pt_tail (n : Nat) (h64 : n ≤ 64) (H : Int) (h1 : 1 ≤ H) (h4 : H ≤ 4) (X : List AV)
    (hB : outF (B [.lst n (ZX n), wN 1] []) = .tup [.lst ((n + 7) / 8) (zE ((n + 7) / 8)), wN 0])
    (c1 : outF (C [nilS, wN 1] []) = nilS) (c2 : outF (C [nilS, wN 2] []) = nilS) (c3 : outF (C [nilS, wN 3] []) = .lit 1 [vB8 0]) (c4 : outF (C [nilS, wN 4] []) = .lst 2 [vB8 0, vB8 0]) :
    Tri Try.prog 65 0 (seqs (first 3 (cN 6 pt)) .ret) (mk ([0, 2, 9, 10].zip [.lst n X, wN H, .lst n (ZX n), nilS])) [] (fun x t _ => x = .ret ∧ t.get 6 = .lst (2 + (n + 7) / 8 + (eH H).length) (putL n H) ∧ t.get 7 = wN 0) := by
  have hN : 65 < 16383 := by decide
  generalize hm : (n + 7) / 8 = m at *
  have w1 : v64 (IntKind.wrap .u64 (Int.ofNat n)) = v64 (Int.ofNat n) := by rw [wU64 h64]
  have w2 : vB8 (IntKind.wrap .u8 (Int.ofNat n)) = vB8 (Int.ofNat n) := by rw [wU8 h64]
  have w3 : ¬ (Int.ofNat n ≥ 128) := by simp only [Int.ofNat_eq_natCast]; omega
  have e1 : ∀ H : Int, appendV Try.prog [zr [vB8 H, vB8 (Int.ofNat n)] 1] 22 22 (.ref 0 1 0 2) (.lst m (zE m)) = some (.val (.ref 0 2 0 (2 + m)) [zr ([vB8 H, vB8 (Int.ofNat n)] ++ zE m) 2]) :=
    fun H => app22 (Y := [vB8 H, vB8 (Int.ofNat n)]) (E := zE m) rfl (by simp) rfl (src22 _ (.inr (.inr (.inl ⟨_, _, rfl⟩)))) (fun v hv => (List.mem_replicate.1 hv).2) (by omega)
  have l1 : ∀ H : Int, ([vB8 H, vB8 (Int.ofNat n)] ++ zE m).length = 2 + m := fun H => by simp; omega
  have e2 : ∀ (H : Int) (e : Nat) (E : List AV) (x : AV), elemsOf [zr ([vB8 H, vB8 (Int.ofNat n)] ++ zE m) 2] x = some (e, E) → E.length = e → (∀ v ∈ E, v = vB8 0) → srcT Try.prog 22 1 x = true → e ≤ 2 → appendV Try.prog [zr ([vB8 H, vB8 (Int.ofNat n)] ++ zE m) 2] 22 22 (.ref 0 2 0 (2 + m)) x = some (.val (.ref 0 3 0 (2 + m + e)) [zr (([vB8 H, vB8 (Int.ofNat n)] ++ zE m) ++ E) 3]) :=
    fun H e E x hx hl hz hs he => app22 (E := E) (l1 H) hl hx hs hz (by omega)
  have l2 : ∀ (H : Int) (E : List AV), (([vB8 H, vB8 (Int.ofNat n)] ++ zE m) ++ E).length = 2 + m + E.length := fun H E => by rw [List.length_append, l1]
  have hH : H = 1 ∨ H = 2 ∨ H = 3 ∨ H = 4 := by omega
  rcases hH with rfl | rfl | rfl | rfl
  · refine Tri.step hR hr hN (keep := [0, 2, 9, 10]) (vals := [.lst n X, wN 1, .lst n (ZX n), nilS]) rfl rfl (pt_end1 A B C X (ZX n) (zE m) n m) (hold_eq (by rw [e2 1 0 [] nilS rfl rfl (by simp) (src22 _ (.inr (.inr (.inr rfl)))) (by omega)]; rfl) (hold_eq c1 (hold_eq (by rw [e1]; rfl) (hold_eq w2 (hold_F w3 (hold_eq w1 (hold_eq hB hold_nil))))))) (fun _ t k => ?_) (fun h => absurd rfl h)
    rw [putL, eH1, hm]; exact pt_fin hR (l2 1 []) k
  · refine Tri.step hR hr hN (keep := [0, 2, 9, 10]) (vals := [.lst n X, wN 2, .lst n (ZX n), nilS]) rfl rfl (pt_end2 A B C X (ZX n) (zE m) n m) (hold_eq (by rw [e2 2 0 [] nilS rfl rfl (by simp) (src22 _ (.inr (.inr (.inr rfl)))) (by omega)]; rfl) (hold_eq c2 (hold_eq (by rw [e1]; rfl) (hold_eq w2 (hold_F w3 (hold_eq w1 (hold_eq hB hold_nil))))))) (fun _ t k => ?_) (fun h => absurd rfl h)
    rw [putL, eH2, hm]; exact pt_fin hR (l2 2 []) k
  · refine Tri.step hR hr hN (keep := [0, 2, 9, 10]) (vals := [.lst n X, wN 3, .lst n (ZX n), nilS]) rfl rfl (pt_end3 A B C X (ZX n) (zE m) n m) (hold_eq (by rw [e2 3 1 [vB8 0] (.lit 1 [vB8 0]) rfl rfl (by simp) (src22 _ (.inr (.inl rfl))) (by omega)]; rfl) (hold_eq c3 (hold_eq (by rw [e1]; rfl) (hold_eq w2 (hold_F w3 (hold_eq w1 (hold_eq hB hold_nil))))))) (fun _ t k => ?_) (fun h => absurd rfl h)
    rw [putL, eH3, hm]; exact pt_fin hR (l2 3 [vB8 0]) k
  · refine Tri.step hR hr hN (keep := [0, 2, 9, 10]) (vals := [.lst n X, wN 4, .lst n (ZX n), nilS]) rfl rfl (pt_end4 A B C X (ZX n) (zE m) n m) (hold_eq (by rw [e2 4 2 [vB8 0, vB8 0] (.lst 2 [vB8 0, vB8 0]) rfl rfl (by simp) (src22 _ (.inr (.inr (.inl ⟨_, _, rfl⟩)))) (by omega)]; rfl) (hold_eq c4 (hold_eq (by rw [e1]; rfl) (hold_eq w2 (hold_F w3 (hold_eq w1 (hold_eq hB hold_nil))))))) (fun _ t k => ?_) (fun h => absurd rfl h)
    rw [putL, eH4, hm]; exact pt_fin hR (l2 4 [vB8 0, vB8 0]) k
theorem pt_tri (n : Nat) (h0 : 1 ≤ n) (h64 : n ≤ 64) (q : Int × Int) (hq : q ∈ mayL)
    (hA : outF (A [.lst n (NX n), wN q.1] []) = wN 0)
    (hB : outF (B [.lst n (ZX n), wN 1] []) = .tup [.lst ((n + 7) / 8) (zE ((n + 7) / 8)), wN 0])
    (c1 : outF (C [nilS, wN 1] []) = nilS) (c2 : outF (C [nilS, wN 2] []) = nilS) (c3 : outF (C [nilS, wN 3] []) = .lit 1 [vB8 0]) (c4 : outF (C [nilS, wN 4] []) = .lst 2 [vB8 0, vB8 0]) :
    Tri Try.prog 65 0 pt (frameOf 0 [.lst n (NX n), wN q.1, wN q.2] .lf) [] (fun x t _ => x = .ret ∧ t.get 6 = .lst (2 + (n + 7) / 8 + (eH q.2).length) (putL n q.2) ∧ t.get 7 = wN 0) := by
  have hN : 65 < 16383 := by decide
  have hH : 1 ≤ q.2 ∧ q.2 ≤ 4 := by
    simp only [mayL, List.mem_cons, List.not_mem_nil, or_false] at hq
    rcases hq with rfl | rfl | rfl | rfl | rfl | rfl <;> decide
  rw [pt_eq]
  refine Tri.step hR hr hN (keep := [0, 1, 2]) (vals := [.lst n (NX n), wN q.1, wN q.2]) rfl rfl (List.map_inj_left.1 (pt_pre A B C (NX n) n) q hq) (hold_eq hA hold_nil) (fun _ t1 k1 => ?_) (fun h => absurd rfl h)
  refine Tri.seq (Mid := fun x t hp => x = .nrm ∧ ∃ g, [0, 2, 9, 10].map t.get = [.lst n (NX n), wN q.2, .ref 0 g 0 n, nilS] ∧ hp = [zr (ZX n) g]) ?_ ?_ ?_
  · refine Tri.step hR hr hN (l := [cL (cL (cN 5 pt))]) (c := .block 0 (.loop ptB)) k1 rfl (pt_i0 A B C (NX n) n _) hold_nil (fun _ t2 k2 => ?_) (fun h => absurd rfl h)
    refine Tri.block (Tri.loop (fun j t hp => ∃ i s9, i + j = n ∧ [0, 2, 9, 10, 26, 27, 28].map t.get = [.lst n (NX n), wN q.2, s9, nilS, .lst n (NX n), wN (Int.ofNat n), wN (Int.ofNat i)] ∧ ((i = 0 ∧ s9 = nilS ∧ hp = []) ∨ (1 ≤ i ∧ ∃ g, s9 = .ref 0 g 0 i ∧ hp = [zr (ZX i) g]))) ?_ (k := n) ⟨0, _, by omega, k2, .inl ⟨rfl, rfl, rfl⟩⟩)
    rintro j t hp ⟨i, s9, hi, hk, hI⟩
    rw [ptB_eq]
    by_cases hlt : i < n
    · rcases hI with ⟨rfl, rfl, rfl⟩ | ⟨hi1, g, rfl, rfl⟩
      · refine Tri.step hR hr hN hk rfl (pt_E1 A B C (NX n) n 0 _) (hold_eq (ldN_none hlt _) (hold_eq (ixO_eq hlt) (hold_T (lt_of hlt) hold_nil))) (fun _ t1 k3 => ?_) (fun h => absurd rfl h)
        refine Tri.drop (js := [1]) (l := [1]) rfl (by decide) (by simp) (sub := [zr [v64 0] 0]) rfl k3 rfl (vals' := [.lst n (NX n), wN q.2, .ref 0 0 0 1, nilS, .lst n (NX n), wN (Int.ofNat n), wN (Int.ofNat 0)]) rfl ?_
        exact Tri.last hR hr hN (keep := [0, 2, 9, 10, 26, 27, 28]) (vals := [.lst n (NX n), wN q.2, .ref 0 0 0 1, nilS, .lst n (NX n), wN (Int.ofNat n), wN (Int.ofNat 0)]) rfl rfl (pt_up A B C _ n 0 _ _ _) (hold_eq (up_of (by omega)) hold_nil) (fun t' h' => .inl ⟨rfl, j - 1, by omega, 1, _, by omega, h', .inr ⟨by omega, 0, rfl, rfl⟩⟩)
      · refine Tri.step hR hr hN hk rfl (pt_E2 A B C (NX n) (ZX i) n i g i _) (hold_eq (by rw [app196 (hp := [zr (ZX i) g, bC' nulC]) (i := 0) rfl (by omega)]; rfl) (hold_eq (ldN_none hlt _) (hold_eq (ixO_eq hlt) (hold_T (lt_of hlt) hold_nil)))) (fun _ t1 k3 => ?_) (fun h => absurd rfl h)
        refine Tri.drop (js := [0]) (l := [0]) rfl (by decide) (by simp) (sub := [zr (ZX i ++ [v64 0]) (g + 1)]) rfl k3 rfl (vals' := [.lst n (NX n), wN q.2, .ref 0 (g + 1) 0 (i + 1), nilS, .lst n (NX n), wN (Int.ofNat n), wN (Int.ofNat i)]) rfl ?_
        exact Tri.last hR hr hN (keep := [0, 2, 9, 10, 26, 27, 28]) (vals := [.lst n (NX n), wN q.2, .ref 0 (g + 1) 0 (i + 1), nilS, .lst n (NX n), wN (Int.ofNat n), wN (Int.ofNat i)]) rfl rfl (pt_up A B C _ n i _ _ _) (hold_eq (up_of (by omega)) hold_nil) (fun t' h' => .inl ⟨rfl, j - 1, by omega, i + 1, _, by omega, h', .inr ⟨by omega, g + 1, rfl, by rw [ZX, ZX, List.replicate_succ']⟩⟩)
    · have he : i = n := by omega
      subst he
      rcases hI with ⟨h0', _, _⟩ | ⟨hi1, g, rfl, rfl⟩
      · omega
      exact Tri.step hR hr hN hk rfl (pt_out A B C (NX i) i i _ _ _) (hold_F (by simp only [Int.ofNat_eq_natCast]; omega) hold_nil) (fun h => by cases h) (fun _ t' k => .inr ⟨by simp, rfl, g, k, rfl⟩)
  · rintro t' hp' ⟨_, g, hk, rfl⟩
    refine Tri.of_keep hk rfl ?_
    refine Tri.frz (i := 9) (by decide) (v := .lst n (ZX n)) (hp' := [{ zr (ZX n) g with ro := true }]) ?_ ?_
    · exact frz_ref (hp := [zr (ZX n) g]) (i := 0) (g := g) (n := n) (b := zr (ZX n) g) rfl rfl rfl (by simp)
    refine Tri.drop (js := []) (l := []) rfl (by decide) (by simp) (sub := []) rfl (keep := [0, 2, 9, 10]) (vals := [.lst n (NX n), wN q.2, .lst n (ZX n), nilS]) rfl rfl (vals' := [.lst n (NX n), wN q.2, .lst n (ZX n), nilS]) rfl ?_
    exact pt_tail hR hr n h64 q.2 hH.1 hH.2 (NX n) hB c1 c2 c3 c4
  · rintro x t' hp' hx ⟨rfl, _⟩
    exact absurd rfl hx
theorem pn_tri (n : Nat) (q : Int × Int) (hq : q ∈ noL) (hA : outF (A [.lst n (NX n), wN q.1] []) = wN 0) :
    Tri Try.prog 65 0 pt (frameOf 0 [.lst n (NX n), wN q.1, wN q.2] .lf) [] (fun x t _ => x = .ret ∧ t.get 6 = nilS ∧ t.get 7 = wN 1) := by
  have hN : 65 < 16383 := by decide
  rw [pt_eq]
  exact Tri.step hR hr hN (keep := [0, 1, 2]) (vals := [.lst n (NX n), wN q.1, wN q.2]) rfl rfl (List.map_inj_left.1 (pt_no A B C (NX n) n) q hq) (hold_eq hA hold_nil) (fun h => by cases h) (fun _ t k => ⟨rfl, by simpa using k⟩)
end
/-! contracts of several calls -/
open Classical in
noncomputable def tblD : List (List AV × AV) → OvD
  | [], _, _ => none
  | (A, v) :: r, args, hp => if args = A ∧ hp = [] then some (v, []) else tblD r args hp
theorem of_tblD {f : FuncId} : ∀ {T : List (List AV × AV)}, (∀ q ∈ T, FnOk Try.prog f q.1 [] q.2 []) → ∀ {args : List AV} {hp hp' : List Blk} {r : AV}, tblD T args hp = some (r, hp') → FnOk Try.prog f args hp r hp'
  | [], _, _, _, _, _, k => by cases k
  | (A, v) :: T, h, args, hp, hp', r, k => by
    unfold tblD at k
    split at k
    · rename_i e; obtain ⟨rfl, rfl⟩ := e; cases k; exact h _ (List.mem_cons_self ..)
    · exact of_tblD (fun q hq => h q (List.mem_cons_of_mem _ hq)) k
theorem tblD_hit (A : List AV) (v : AV) (T : List (List AV × AV)) : outF (tblD ((A, v) :: T) A []) = v := by
  unfold tblD
  rw [if_pos ⟨rfl, rfl⟩]; rfl
theorem tblD_miss {A B : List AV} (v : AV) (T : List (List AV × AV)) (h : A ≠ B) : outF (tblD ((B, v) :: T) A []) = outF (tblD T A []) := by
  conv => lhs; unfold tblD
  rw [if_neg (fun e => h e.1)]
abbrev tolT : List (List AV × AV) := [([nilS, wN 1], nilS), ([nilS, wN 2], nilS), ([nilS, wN 3], .lit 1 [vB8 0]), ([nilS, wN 4], .lst 2 [vB8 0, vB8 0])]
theorem tolT_ok : ∀ q ∈ tolT, FnOk Try.prog 121 q.1 [] q.2 [] := by
  intro q hq
  simp only [tolT, List.mem_cons, List.not_mem_nil, or_false] at hq
  rcases hq with rfl | rfl | rfl | rfl
  · exact told1
  · exact told2
  · exact told3
  · exact told4
theorem put_res {t : Tr} {hp : List Blk} {x : AV} {e : Int} (h6 : t.get 6 = x) (h7 : t.get 7 = wN e) : resV Try.prog t hp Try.f73.results.toList = some [x, wN e] := by
  have e1 : Try.f73.results.toList = [.tmp 6, .tmp 7] := by kernel_rfl
  rw [e1]; exact resV_tmps h6 h7
theorem put_ok (n : Nat) (h0 : 1 ≤ n) (h64 : n ≤ 64) (q : Int × Int) (hq : q ∈ mayL) : FnOk Try.prog 73 [.lst n (NX n), wN q.1, wN q.2] [] (.tup [.lst (2 + (n + 7) / 8 + (eH q.2).length) (putL n q.2), wN 0]) [] := by
  have hK : 1 ≤ q.1 ∧ q.1 ≤ 3 := by
    simp only [mayL, List.mem_cons, List.not_mem_nil, or_false] at hq
    rcases hq with rfl | rfl | rfl | rfl | rfl | rfl <;> decide
  have ck := checkN_ok n q.1 hK.1 hK.2
  rw [if_pos h64] at ck
  have pk := pack_ok n h64
  rw [zB_cells] at pk
  have hov := okQ (A := oneD [.lst n (NX n), wN q.1] (wN 0)) (B := oneD [.lst n (ZX n), wN 1] (.tup [.lst ((n + 7) / 8) (zE ((n + 7) / 8)), wN 0])) (C := tblD tolT) (fun _ _ _ _ k => of_oneD ck k) (fun _ _ _ _ k => of_oneD pk k) (fun _ _ _ _ k => of_tblD tolT_ok k)
  refine fn_of_tri (fn := Try.f73) (c := pt) Try.func73 (by kernel_rfl) (show (65 : Nat) < 16383 by decide) ?_
  refine Tri.mono (pt_tri (orV_ok hov 60) (orS_ok 60) n h0 h64 q hq (oneD_eq _ _) (oneD_eq _ _) (tblD_hit _ _ _) ?_ ?_ ?_) ?_
  · rw [tblD_miss _ _ (by simp)]; exact tblD_hit _ _ _
  · rw [tblD_miss _ _ (by simp), tblD_miss _ _ (by simp)]; exact tblD_hit _ _ _
  · rw [tblD_miss _ _ (by simp), tblD_miss _ _ (by simp), tblD_miss _ _ (by simp)]; exact tblD_hit _ _ _
  rintro x t hp1 ⟨rfl, h6, h7⟩
  refine ⟨.inr rfl, ?_⟩
  rw [put_res h6 h7]
  generalize putL n q.2 = c
  generalize 2 + (n + 7) / 8 + (eH q.2).length = m
  show _ = _
  kernel_rfl
theorem putN_ok (n : Nat) (h64 : n ≤ 64) (q : Int × Int) (hq : q ∈ noL) : FnOk Try.prog 73 [.lst n (NX n), wN q.1, wN q.2] [] (.tup [nilS, wN 1]) [] := by
  have hK : 1 ≤ q.1 ∧ q.1 ≤ 3 := by
    simp only [noL, List.mem_cons, List.not_mem_nil, or_false] at hq
    rcases hq with rfl | rfl | rfl | rfl | rfl | rfl <;> decide
  have ck := checkN_ok n q.1 hK.1 hK.2
  rw [if_pos h64] at ck
  have hov := okQ (A := oneD [.lst n (NX n), wN q.1] (wN 0)) (B := fun _ _ => none) (C := fun _ _ => none) (fun _ _ _ _ k => of_oneD ck k) (fun _ _ _ _ k => by cases k) (fun _ _ _ _ k => by cases k)
  refine fn_of_tri (fn := Try.f73) (c := pt) Try.func73 (by kernel_rfl) (show (65 : Nat) < 16383 by decide) ?_
  refine Tri.mono (pn_tri (orV_ok hov 60) (orS_ok 60) n q hq (oneD_eq _ _)) ?_
  rintro x t hp1 ⟨rfl, h6, h7⟩
  refine ⟨.inr rfl, ?_⟩
  rw [put_res h6 h7]
  show _ = _
  kernel_rfl
/-! the best way -/
def mBe (D E : OvD) : Vm.Mode := ⟨fun f => Nat.beq f 68, fun f => cond (Nat.beq f 38) (some D) (cond (Nat.beq f 73) (some E) none)⟩
theorem okBe {D E : OvD} (hD : ∀ args hp r hp', D args hp = some (r, hp') → FnOk Try.prog 38 args hp r hp') (hE : ∀ args hp r hp', E args hp = some (r, hp') → FnOk Try.prog 73 args hp r hp') (f : FuncId) (K : OvD) (h : (mBe D E).ov f = some K) (args : List AV) (hp : List Blk) (r : AV) (hp' : List Blk) (k : K args hp = some (r, hp')) : FnOk Try.prog f args hp r hp' := by
  rcases ov_cond h with ⟨rfl, rfl⟩ | h
  · exact hD _ _ _ _ k
  rcases ov_cond h with ⟨rfl, rfl⟩ | h
  · exact hE _ _ _ _ k
  cases h
end Go.Proofs.Ytdahjdfjpckdcaa
