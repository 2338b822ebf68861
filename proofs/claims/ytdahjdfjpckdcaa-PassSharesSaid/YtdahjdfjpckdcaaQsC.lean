/- PassShares: the loop and the call. -/
import Derived.Test.YtdahjdfjpckdcaaQsB
namespace Go.Proofs.Ytdahjdfjpckdcaa
open Go Go.Vm
set_option maxRecDepth 100000
theorem ok0 (f : FuncId) (F : List AV → List Blk → Option (AV × List Blk)) (h : m0.ov f = some F) (args : List AV) (hp : List Blk) (r : AV) (hp' : List Blk) (_ : F args hp = some (r, hp')) : FnOk Try.prog f args hp r hp' := by cases h
theorem of_true {f : FuncId} (hf : FnOk Try.prog f [] [] vT []) {args : List AV} {hp hp' : List Blk} {r : AV} (h : oTrue args hp = some (r, hp')) : FnOk Try.prog f args hp r hp' := by
  unfold oTrue at h
  split at h
  · cases h; exact hf
  · cases h
theorem known11_ok : FnOk Try.prog 11 [] [] vT [] := runV_ok (M := m0) ok0 100 _ _ _ _ _ (by kernel_rfl)
theorem okS (f : FuncId) (F : List AV → List Blk → Option (AV × List Blk)) (h : mk1.ov f = some F) (args : List AV) (hp : List Blk) (r : AV) (hp' : List Blk) (k : F args hp = some (r, hp')) : FnOk Try.prog f args hp r hp' := by
  rcases ov_cond h with ⟨rfl, rfl⟩ | h
  · exact of_true known11_ok k
  cases h
theorem gc_true (l : List Blk) : gcV 0 vT l = some (vT, []) := by kernel_rfl
theorem res3 (t : Tr) (l : List Blk) : resV Try.prog t l Try.f3.results.toList = some [t.get 4] := by kernel_rfl
theorem agg5 : isAggT Try.prog 5 = some false := by kernel_rfl
theorem row_at {xs : List Int} {i : Nat} (h : i < xs.length) : (xs.map vU)[i * 1]? = some (vU xs[i]) := by
  rw [Nat.mul_one, List.getElem?_map, List.getElem?_eq_getElem h]; rfl
def inU (z : Int) : Prop := 0 ≤ z ∧ z ≤ 255
theorem tmod_in {z k : Int} (hz : 0 ≤ z) (hk : 0 < k) : 0 ≤ z.tmod k ∧ z.tmod k < k := by
  rw [Int.tmod_eq_emod_of_nonneg hz]; exact ⟨Int.emod_nonneg _ (by omega), Int.emod_lt_of_pos _ hk⟩
abbrev keepS (a c i : Nat) (X Y : List AV) (L : Int) : List AV := [.lst a X, .lst c Y, .ptr 0 0 0, .ptr 1 0 0, vN L, vN (Int.ofNat i)]
theorem hrunS : RunOk Try.prog eV := orV_ok okS 50
theorem hrS : RunsOk eV eS := orS_ok 50

theorem sh_body (xs ys : List Int) (hx : ∀ z ∈ xs, inU z) (hy : ∀ z ∈ ys, inU z) (hlen : xs.length ≤ ys.length) (ha : xs.length ≤ 40) (i : Nat) (hi : i < xs.length) (L M0 : Int) (h : Bool) (hs : (i = 0 ∧ L = -1 ∧ h = false ∧ M0 = 0) ∨ (h = true ∧ M0 = L ∧ 0 ≤ L)) (t : Tr)
    (hk : [0, 1, 5, 6, 7, 8].map t.get = keepS xs.length ys.length i (xs.map vU) (ys.map vU) L) (Post : Ex → Tr → List Blk → Prop)
    (hpost : ∀ (t' : Tr) (M : Int), 0 ≤ M → [0, 1, 5, 6, 7, 8].map t'.get = keepS xs.length ys.length (i + 1) (xs.map vU) (ys.map vU) M → Post .nrm t' [pB true true M, pB false true M]) :
    Tri Try.prog 100 0 sLp t [pB true h M0, pB false h M0] Post := by
  have hN : 100 < 16383 := by decide
  have hic : i < ys.length := by omega
  have hN' : inU ys[i] := hy _ (List.getElem_mem hic)
  have hD' : inU xs[i] := hx _ (List.getElem_mem hi)
  obtain ⟨k1, k2⟩ := tmod_in (z := ys[i]) (k := 30) hN'.1 (by omega)
  obtain ⟨d1, d2⟩ := tmod_in (z := xs[i]) (k := 20) hD'.1 (by omega)
  have hK : vN (IntKind.wrap .i64 (ys[i].tmod 30)) = vN (ys[i].tmod 30) := by rw [wrap_in (by omega) (by omega)]
  have hM : vN (IntKind.wrap .i64 (xs[i].tmod 20)) = vN (xs[i].tmod 20) := by rw [wrap_in (by omega) (by omega)]
  have hlt : Int.ofNat i < Int.ofNat xs.length := by simp only [Int.ofNat_eq_natCast]; omega
  have hmx : vN (if 0 > ys[i].tmod 30 then 0 else ys[i].tmod 30) = vN (ys[i].tmod 30) := by rw [if_neg (by omega)]
  have hne : ∀ z : Int, (z != z) = false := fun z => by simp
  have rest : ∀ (r K : Int) (t1 : Tr), [0, 1, 5, 6, 7, 8].map t1.get = keepS xs.length ys.length i (xs.map vU) (ys.map vU) (xs[i].tmod 20) →
      Tri Try.prog 100 0 (sR (sR sLp)) t1 [pB true true (xs[i].tmod 20), pB false true (xs[i].tmod 20), rB r K, rB 0 K] Post := by
    intro r K t1 h1
    refine Tri.drop (js := [0, 1]) (l := [0, 1]) rfl (by decide) (by simp) (sub := [pB true true (xs[i].tmod 20), pB false true (xs[i].tmod 20)]) rfl h1 rfl (vals' := keepS xs.length ys.length i (xs.map vU) (ys.map vU) (xs[i].tmod 20)) rfl ?_
    refine Tri.last hrunS hrS hN (keep := [0, 1, 5, 6, 7, 8]) (vals := keepS xs.length ys.length i (xs.map vU) (ys.map vU) (xs[i].tmod 20)) rfl rfl (sh_up _ _ _ _ i _ _) (hold_eq ?_ hold_nil) (fun t' h' => hpost t' _ d1 h')
    rw [wrap_in (by simp only [Int.ofNat_eq_natCast]; omega) (by simp only [Int.ofNat_eq_natCast]; omega)]
    simp only [Int.ofNat_eq_natCast]; congr 2
  rw [sLp_eq]
  rcases hs with ⟨rfl, rfl, rfl, rfl⟩ | ⟨rfl, rfl, hL⟩
  · refine Tri.step hrunS hrS hN hk rfl (sh_in0 (xs.map vU) (ys.map vU) xs.length ys.length 0 (ys[0].tmod 30) (xs[0].tmod 20) ys[0] xs[0]) ?_ (fun _ t1 h1 => rest _ _ t1 h1) (fun h => absurd rfl h)
    exact hold_T d1 (hold_T d1 (hold_eq hM (hold_eq (ldO_eq agg5 (row_at hi)) (hold_eq (ixO_eq hi) (hold_b (hne _) (hold_b (hne _) (hold_eq hmx (hold_eq hmx (hold_eq hK (hold_eq (ldO_eq agg5 (row_at hic)) (hold_eq (ixO_eq hic) (hold_T hlt hold_nil))))))))))))
  · by_cases hc : M0 < ys[i].tmod 30
    · refine Tri.step hrunS hrS hN hk rfl (sh_in1 (xs.map vU) (ys.map vU) xs.length ys.length i (ys[i].tmod 30) M0 (xs[i].tmod 20) ys[i] xs[i]) ?_ (fun _ t1 h1 => rest _ _ t1 h1) (fun h => absurd rfl h)
      exact hold_T d1 (hold_T d1 (hold_eq hM (hold_eq (ldO_eq agg5 (row_at hi)) (hold_eq (ixO_eq hi) (hold_b (hne _) (hold_b (hne _) (hold_b (hne _) (hold_T hc (hold_T hL (hold_eq hmx (hold_T hc (hold_eq hmx (hold_eq hK (hold_eq (ldO_eq agg5 (row_at hic)) (hold_eq (ixO_eq hic) (hold_T hlt hold_nil))))))))))))))))
    · refine Tri.step hrunS hrS hN hk rfl (sh_in2 (xs.map vU) (ys.map vU) xs.length ys.length i (ys[i].tmod 30) M0 (xs[i].tmod 20) ys[i] xs[i]) ?_ (fun _ t1 h1 => rest _ _ t1 h1) (fun h => absurd rfl h)
      exact hold_T d1 (hold_T d1 (hold_eq hM (hold_eq (ldO_eq agg5 (row_at hi)) (hold_eq (ixO_eq hi) (hold_b (hne _) (hold_b (hne _) (hold_F hc (hold_T hL (hold_eq hmx (hold_F hc (hold_eq hmx (hold_eq hK (hold_eq (ldO_eq agg5 (row_at hic)) (hold_eq (ixO_eq hic) (hold_T hlt hold_nil)))))))))))))))

theorem sh_tri (xs ys : List Int) (hx : ∀ z ∈ xs, inU z) (hy : ∀ z ∈ ys, inU z) : Tri Try.prog 100 0 sB (frameOf 0 [.lst xs.length (xs.map vU), .lst ys.length (ys.map vU)] .lf) [] (fun x t _ => x = .ret ∧ t.get 4 = vT) := by
  have hN : 100 < 16383 := by decide
  have ret : ∀ (t : Tr) (l : List Blk), t.get 4 = vT → Tri Try.prog 100 0 .ret t l (fun x t _ => x = .ret ∧ t.get 4 = vT) := fun t l h => Tri.run (M := mk1) (n := 1) hrunS hN (x := .ret) (t' := t) (hp' := l) rfl ⟨rfl, h⟩
  rw [sB_eq]
  by_cases h1 : Int.ofNat xs.length > 40
  · refine Tri.step hrunS hrS hN (keep := [0, 1]) (vals := [.lst xs.length (xs.map vU), .lst ys.length (ys.map vU)]) rfl rfl (sh_long _ _ _ _) (hold_T h1 hold_nil) (fun h => by cases h) (fun _ t h => ⟨rfl, ?_⟩)
    simp at h; exact h.2.2.1
  by_cases h2 : Int.ofNat ys.length < Int.ofNat xs.length
  · refine Tri.step hrunS hrS hN (keep := [0, 1]) (vals := [.lst xs.length (xs.map vU), .lst ys.length (ys.map vU)]) rfl rfl (sh_few _ _ _ _) (hold_T h2 (hold_F h1 hold_nil)) (fun h => by cases h) (fun _ t h => ⟨rfl, ?_⟩)
    simp at h; exact h.2.2.1
  have ha : xs.length ≤ 40 := by simp only [Int.ofNat_eq_natCast] at h1; omega
  have hlen : xs.length ≤ ys.length := by simp only [Int.ofNat_eq_natCast] at h2; omega
  refine Tri.step hrunS hrS hN (keep := [0, 1]) (vals := [.lst xs.length (xs.map vU), .lst ys.length (ys.map vU)]) rfl rfl (sh_pre _ _ _ _) (hold_F h2 (hold_F h1 hold_nil)) (fun _ t1 k1 => ?_) (fun h => absurd rfl h)
  rw [s6_eq]
  refine Tri.seq (Mid := fun x _ _ => x = .nrm) ?_ ?_ ?_
  · refine Tri.step hrunS hrS hN (l := [sL (sL s6)]) (c := .block 0 (.loop sLp)) k1 rfl (sh_i0 _ _ _ _ _) hold_nil (fun _ t2 k2 => ?_) (fun h => absurd rfl h)
    refine Tri.block (Tri.loop (fun j t hp => ∃ i L h M0, i + j = xs.length ∧ [0, 1, 5, 6, 7, 8].map t.get = keepS xs.length ys.length i (xs.map vU) (ys.map vU) L ∧ hp = [pB true h M0, pB false h M0] ∧ ((i = 0 ∧ L = -1 ∧ h = false ∧ M0 = 0) ∨ (h = true ∧ M0 = L ∧ 0 ≤ L)))
      ?_ (k := xs.length) ⟨0, -1, false, 0, by omega, k2, rfl, .inl ⟨rfl, rfl, rfl, rfl⟩⟩)
    rintro j t hp ⟨i, L, h, M0, hi, hk, rfl, hs⟩
    by_cases hlt : i < xs.length
    · exact sh_body xs ys hx hy hlen ha i hlt L M0 h hs t hk _ (fun t' M hM h' => .inl ⟨rfl, j - 1, by omega, i + 1, M, true, M, by omega, h', rfl, .inr ⟨rfl, rfl, hM⟩⟩)
    · rw [sLp_eq]
      refine Tri.step hrunS hrS hN hk rfl (sh_out _ _ _ _ i L _) (hold_F (by simp only [Int.ofNat_eq_natCast]; omega) hold_nil) (fun h => by cases h) (fun _ t' _ => .inr ⟨by simp, rfl⟩)
  · rintro t' hp' _
    refine Tri.step hrunS hrS hN (keep := []) (vals := []) rfl rfl (sh_end _) hold_nil (fun _ t3 h3 => ?_) (fun h => absurd rfl h)
    exact ret t3 _ (by simpa using h3)
  · rintro x t' hp' hx rfl
    exact absurd rfl hx

theorem shares_ok (xs ys : List Int) (hx : ∀ z ∈ xs, inU z) (hy : ∀ z ∈ ys, inU z) : FnOk Try.prog 3 [.lst xs.length (xs.map vU), .lst ys.length (ys.map vU)] [] vT [] := by
  refine fn_of_tri (fn := Try.f3) (c := sB) Try.func3 (by kernel_rfl) (show (100 : Nat) < 16383 by decide) ?_
  refine Tri.mono (sh_tri xs ys hx hy) ?_
  rintro x t hp1 ⟨rfl, h4⟩
  refine ⟨.inr rfl, ?_⟩
  rw [res3 t hp1, h4]
  exact gc_true hp1
end Go.Proofs.Ytdahjdfjpckdcaa
