/- SkipExact: the call. -/
import Derived.Test.YtdahjdfjpckdcaaMtB
import Derived.Test.YtdahjdfjpckdcaaMtC
namespace Go.Proofs.Ytdahjdfjpckdcaa
open Go Go.Vm
set_option maxRecDepth 100000
theorem tmodK {z k : Int} (hz : 0 ≤ z) (hk : 0 < k) : 0 ≤ z.tmod k ∧ z.tmod k < k := by
  rw [Int.tmod_eq_emod_of_nonneg hz]; exact ⟨Int.emod_nonneg _ (by omega), Int.emod_lt_of_pos _ hk⟩
abbrev xK1 : List Nat := [0, 2, 3, 4, 11, 12, 13]
abbrev xS1 (F V O : Int) (nu : Bool) (k : Nat) (r : AV) (i : Nat) : List AV := [vI8 F, vI8 V, vU8 O, wB nu, wN (Int.ofNat k), r, wN (Int.ofNat i)]
abbrev xK2 : List Nat := [12, 14, 15, 16, 17, 18]
abbrev xS2 (X : List AV) (a w i : Nat) : List AV := [.lst a X, .ptr 0 0 0, wN 0, .ptr 1 0 0, wN (Int.ofNat w), wN (Int.ofNat i)]
theorem runI_succ (F : Int) (i : Nat) : (runI F (i + 1)).map some = (runI F i).map some ++ [some (F + Int.ofNat i)] := by
  unfold runI; rw [List.range_succ]; simp
theorem runI_len (F : Int) (i : Nat) : ((runI F i).map some).length = i := by unfold runI; simp
def xI (F : Int) (i : Nat) (r : AV) (hp : List Blk) : Prop := (i = 0 ∧ r = nilS ∧ hp = []) ∨ (∃ g, 0 < i ∧ r = .ref 0 g 0 i ∧ hp = [rwB (cellsO ((runI F i).map some)) g false])
section
variable {A : OvF} (hR : RunOk Try.prog (xV A)) (hr : RunsOk (xV A) (xS A))
include hR hr
theorem x_body1 {F V O : Int} (hF : -128 ≤ F ∧ F ≤ 127) {nu : Bool} {k i : Nat} (hk40 : k ≤ 40) (hlt : i < k) {r : AV} {hp : List Blk} (hI : xI F i r hp) {t : Tr} (hk : xK1.map t.get = xS1 F V O nu k r i) (Post : Ex → Tr → List Blk → Prop)
    (hpost : ∀ (t' : Tr) (r' : AV) (hp' : List Blk), xI F (i + 1) r' hp' → xK1.map t'.get = xS1 F V O nu k r' (i + 1) → Post .nrm t' hp') : Tri Try.prog 90 0 xe1 t hp Post := by
  have hN : 90 < 16383 := by decide
  have wF : wN (IntKind.wrap .i64 F) = wN F := by rw [wrap_in (by omega) (by omega)]
  have wx : wN (IntKind.wrap .i64 (F + Int.ofNat i)) = wN (F + Int.ofNat i) := by rw [wrap_in (by simp only [Int.ofNat_eq_natCast]; omega) (by simp only [Int.ofNat_eq_natCast]; omega)]
  have hup : ∀ (t1 : Tr) (r' : AV) (hp' : List Blk), xI F (i + 1) r' hp' → xK1.map t1.get = xS1 F V O nu k r' i → Tri Try.prog 90 0 (cN 2 xe1) t1 hp' Post := by
    intro t1 r' hp' hI' h1
    exact Tri.last hR hr hN h1 rfl (xp_up A F V O nu k i r' hp') (hold_eq (up_of (by omega)) hold_nil) (fun t' h' => hpost t' r' hp' hI' h')
  rw [xe1_eq]
  rcases hI with ⟨rfl, rfl, rfl⟩ | ⟨g, h0, rfl, rfl⟩
  · refine Tri.step hR hr hN hk rfl (xp_E1 A F V O (F + Int.ofNat 0) nu k 0) (hold_eq wx (hold_eq wF (hold_T (lt_of hlt) hold_nil))) (fun _ t1 k1 => hup t1 _ _ (.inr ⟨0, by omega, rfl, ?_⟩) k1) (fun h => absurd rfl h)
    rw [runI_succ]; rfl
  · have a1 := app36 (hp := [rwB (cellsO ((runI F i).map some)) g false]) (i := 0) (g := g) (n := i) (os := (runI F i).map some) (some (F + Int.ofNat i)) rfl (runI_len F i) (by omega)
    refine Tri.step hR hr hN hk rfl (xp_E2 A (cellsO ((runI F i).map some)) F V O (F + Int.ofNat i) nu k i g i) (hold_eq (by rw [a1, ← cellsO_app _ (some (F + Int.ofNat i))]; rfl) (hold_eq wx (hold_eq wF (hold_T (lt_of hlt) hold_nil)))) (fun _ t1 k1 => hup t1 _ _ (.inr ⟨g + 1, by omega, rfl, ?_⟩) k1) (fun h => absurd rfl h)
    rw [runI_succ, cellsO_app]

theorem x_body2 {op v : Int} (hop : 1 ≤ op ∧ op ≤ 6) {os : List (Option Int)} (h64 : os.length ≤ 64) {S : Blk} {i w : Nat} (hw : w < 8) (hlt : i < os.length) {t : Tr} (hk : xK2.map t.get = xS2 (cellsO os) os.length w i) (Post : Ex → Tr → List Blk → Prop)
    (hpost : ∀ t', xK2.map t'.get = xS2 (cellsO os) os.length (w ||| (1 <<< outE op v os[i])) (i + 1) → Post .nrm t' [S, bC' (leafC op v)]) : Tri Try.prog 90 0 xe2 t [S, bC' (leafC op v)] Post := by
  have hN : 90 < 16383 := by decide
  have hel := ldO_at hlt [S, bC' (leafC op v)]
  have hm := wmem (outE_lt op v os[i]) hw
  have hup : ∀ (t1 : Tr) (w' : Nat), w' = (w ||| (1 <<< outE op v os[i])) → xK2.map t1.get = xS2 (cellsO os) os.length w' i → Tri Try.prog 90 0 (cN 2 xe2) t1 [S, bC' (leafC op v)] Post := by
    rintro t1 w' rfl h1
    exact Tri.last hR hr hN h1 rfl (xp_up2 A (cellsO os) os.length i _ _) (hold_eq (up_of (by omega)) hold_nil) (fun t' h' => hpost t' h')
  rw [xe2_eq]
  cases ho : os[i] with
  | some n =>
    rw [ho] at hel hm hup
    exact Tri.step hR hr hN hk rfl (List.map_inj_left.1 (xp_s A S (cellsO os) os.length i op v n) _ hm) (hold_eq (oEval_eq (some n) hop) (hold_eq hel (hold_eq (ixO_eq hlt) (hold_T (lt_of hlt) hold_nil)))) (fun _ t1 k1 => hup t1 _ rfl k1) (fun h => absurd rfl h)
  | none =>
    rw [ho] at hel hm hup
    exact Tri.step hR hr hN hk rfl (List.map_inj_left.1 (xp_n A S (cellsO os) os.length i op v) _ hm) (hold_eq (oEval_eq none hop) (hold_eq hel (hold_eq (ixO_eq hlt) (hold_T (lt_of hlt) hold_nil)))) (fun _ t1 k1 => hup t1 _ rfl k1) (fun h => absurd rfl h)

theorem x_tri {F N V O : Int} (hF : -128 ≤ F ∧ F ≤ 127) (hn : 0 ≤ N ∧ N ≤ 255) (hv : -128 ≤ V ∧ V ≤ 127) (ho : 0 ≤ O ∧ O ≤ 255) (nu : Bool) {m : Nat} (hm : Int.ofNat m = N.tmod 40) (hA : outF (A [.lst (rowX F (m + 1) nu).length (cellsO (rowX F (m + 1) nu)), wN 1] []) = .tup [.agg (statO (rowX F (m + 1) nu)), wN 0]) :
    Tri Try.prog 90 0 xe (frameOf 0 [vI8 F, vU8 N, vI8 V, vU8 O, wB nu] .lf) [] (fun x t _ => x = .ret ∧ t.get 10 = wB true) := by
  have hN : 90 < 16383 := by decide
  obtain ⟨m1, m2⟩ := tmodK (z := N) (k := 40) hn.1 (by omega)
  obtain ⟨o1, o2⟩ := tmodK (z := O) (k := 6) ho.1 (by omega)
  have hm40 : m < 40 := by simp only [Int.ofNat_eq_natCast] at hm; omega
  have wk : wN (IntKind.wrap .i64 (1 + IntKind.wrap .i64 (N.tmod 40))) = wN (Int.ofNat (m + 1)) := by
    rw [wrap_in (x := N.tmod 40) (by omega) (by omega), wrap_in (by omega) (by omega), ← hm]
    simp only [Int.ofNat_eq_natCast]; congr 2; omega
  have wo : wN (IntKind.wrap .i64 (1 + IntKind.wrap .i64 (O.tmod 6))) = wN (1 + O.tmod 6) := by rw [wrap_in (x := O.tmod 6) (by omega) (by omega), wrap_in (by omega) (by omega)]
  have wv : wN (IntKind.wrap .i64 V) = wN V := by rw [wrap_in (by omega) (by omega)]
  have hop : 1 ≤ 1 + O.tmod 6 ∧ 1 + O.tmod 6 ≤ 6 := by omega
  rw [statO_run] at hA
  have hlen := rowX_len F (m + 1) nu
  have hlen64 : (rowX F (m + 1) nu).length ≤ 64 := by rw [hlen]; cases nu <;> simp <;> omega
  have hmask : maskA (leafC (1 + O.tmod 6) V) (.lst 1 (statC (Int.ofNat (rowX F (m + 1) nu).length) (cond nu 1 0) F (F + Int.ofNat m))) = some (Int.ofNat (foldW (1 + O.tmod 6) V (rowX F (m + 1) nu))) := by
    rw [maskA_eq ⟨hop.1, hop.2, by cases nu <;> simp, by rw [hlen]; cases nu <;> simp <;> omega⟩, mask_eq hop.1 hop.2]
  have hw8 := foldW_lt (1 + O.tmod 6) V F (m + 1) nu
  generalize hop' : 1 + O.tmod 6 = op at *
  have ret : ∀ (t : Tr) (l : List Blk), t.get 10 = wB true → Tri Try.prog 90 0 .ret t l (fun x t _ => x = .ret ∧ t.get 10 = wB true) := fun t l h => Tri.run (M := mX A) (n := 1) hR hN (x := .ret) (t' := t) (hp' := l) rfl ⟨rfl, h⟩
  rw [xe_eq]
  refine Tri.step hR hr hN (keep := [0, 1, 2, 3, 4]) (vals := [vI8 F, vU8 N, vI8 V, vU8 O, wB nu]) rfl rfl (xp_pre A F N V O nu (m + 1)) (hold_eq wk hold_nil) (fun _ t1 k1 => ?_) (fun h => absurd rfl h)
  refine Tri.seq (Mid := fun x t hp => x = .nrm ∧ ∃ g, [2, 3, 4, 12].map t.get = [vI8 V, vU8 O, wB nu, .ref 0 g 0 (m + 1)] ∧ hp = [rwB (cellsO ((runI F (m + 1)).map some)) g false]) ?_ ?_ ?_
  · refine Tri.step hR hr hN (l := [cL (cL (cN 4 xe))]) (c := .block 0 (.loop xe1)) k1 rfl (xp_i0 A F V O nu (m + 1)) hold_nil (fun _ t2 k2 => ?_) (fun h => absurd rfl h)
    refine Tri.block (Tri.loop (fun j t hp => ∃ i r, i + j = m + 1 ∧ xK1.map t.get = xS1 F V O nu (m + 1) r i ∧ xI F i r hp) ?_ (k := m + 1) ⟨0, _, by omega, k2, .inl ⟨rfl, rfl, rfl⟩⟩)
    rintro j t hp ⟨i, r, hi, hk, hI⟩
    by_cases hlt : i < m + 1
    · exact x_body1 hR hr hF (by omega) hlt hI hk _ (fun t' r' hp' hI' hk' => .inl ⟨rfl, j - 1, by omega, i + 1, r', by omega, hk', hI'⟩)
    · have he : i = m + 1 := by omega
      subst he
      rcases hI with ⟨h0, _, _⟩ | ⟨g, _, rfl, rfl⟩
      · omega
      rw [xe1_eq]
      exact Tri.step hR hr hN hk rfl (xp_out A F V O nu (m + 1) (m + 1) _ _) (hold_F (by omega) hold_nil) (fun h => by cases h) (fun _ t' k => .inr ⟨by simp, rfl, g, k, rfl⟩)
  · rintro t' hp' ⟨_, g, hk, rfl⟩
    have tail : ∀ (t2 : Tr) (g : Nat), [2, 3, 12].map t2.get = [vI8 V, vU8 O, .ref 0 g 0 (rowX F (m + 1) nu).length] →
        Tri Try.prog 90 0 (seqs (first 3 (cN 6 xe)) (.seq (.seq (cL (cL xeR)) (.block 2 (.loop xe2))) (seqs [cL (cN 10 xe)] .ret))) t2 [rwB (cellsO (rowX F (m + 1) nu)) g false] (fun x t _ => x = .ret ∧ t.get 10 = wB true) := by
      intro t2 g k2
      generalize hos : rowX F (m + 1) nu = os at *
      refine Tri.of_keep k2 rfl ?_
      refine Tri.frz (i := 12) (by decide) (v := .lst os.length (cellsO os)) (hp' := [rwB (cellsO os) g true]) ?_ ?_
      · exact frz_ref (hp := [rwB (cellsO os) g false]) (i := 0) (g := g) (n := os.length) (b := rwB (cellsO os) g false) rfl rfl rfl (cellsO_len os)
      refine Tri.drop (js := []) (l := []) rfl (by decide) (by simp) (sub := []) rfl (keep := [2, 3, 12]) (vals := [vI8 V, vU8 O, .lst os.length (cellsO os)]) rfl rfl (vals' := [vI8 V, vU8 O, .lst os.length (cellsO os)]) rfl ?_
      refine Tri.step hR hr hN (keep := [2, 3, 12]) (vals := [vI8 V, vU8 O, .lst os.length (cellsO os)]) rfl rfl (xp_mid A (cellsO os) os.length V O op V (Int.ofNat os.length) (cond nu 1 0) F (F + Int.ofNat m)) (hold_eq wv (hold_eq wo (hold_eq hA hold_nil))) (fun _ t3 k3 => ?_) (fun h => absurd rfl h)
      refine Tri.seq (Mid := fun x t hp => x = .nrm ∧ [14, 15, 16, 17].map t.get = [.ptr 0 0 0, wN 0, .ptr 1 0 0, wN (Int.ofNat (foldW op V os))] ∧ hp = [bC' (statC (Int.ofNat os.length) (cond nu 1 0) F (F + Int.ofNat m)), bC' (leafC op V)]) ?_ ?_ ?_
      · refine Tri.step hR hr hN (l := [cL (cL xeR)]) (c := .block 2 (.loop xe2)) k3 rfl (xp_j0 A (cellsO os) os.length _) hold_nil (fun _ t4 k4 => ?_) (fun h => absurd rfl h)
        have fold_lt : ∀ l : List (Option Int), l.foldl (fun w o => w ||| (1 <<< outE op V o)) 0 < 8 := fun l => by
          have := foldW_eq op V l
          unfold foldW at this; rw [this]; exact eN_lt _ _ _
        refine Tri.block (Tri.loop (fun j t hp => ∃ i, i + j = os.length ∧ xK2.map t.get = xS2 (cellsO os) os.length (foldW op V (os.take i)) i ∧ hp = [bC' (statC (Int.ofNat os.length) (cond nu 1 0) F (F + Int.ofNat m)), bC' (leafC op V)]) ?_ (k := os.length) ⟨0, by omega, k4, rfl⟩)
        rintro j t hp ⟨i, hi, hk, rfl⟩
        by_cases hlt : i < os.length
        · refine x_body2 hR hr hop hlen64 (fold_lt _) hlt hk _ (fun t' h' => .inl ⟨rfl, j - 1, by omega, i + 1, by omega, ?_, rfl⟩)
          rw [h']
          unfold foldW
          rw [List.take_succ_eq_append_getElem hlt, List.foldl_append]
          rfl
        · have he : i = os.length := by omega
          rw [xe2_eq]
          refine Tri.step hR hr hN hk rfl (xp_out2 A (cellsO os) os.length i _ _) (hold_F (by simp only [Int.ofNat_eq_natCast]; omega) hold_nil) (fun h => by cases h) (fun _ t' k => .inr ⟨by simp, rfl, ?_, rfl⟩)
          rw [k, he, List.take_length]
      · rintro t5 hp5 ⟨_, hk5, rfl⟩
        refine Tri.step hR hr hN hk5 rfl (List.map_inj_left.1 (xp_end A op V (Int.ofNat os.length) (cond nu 1 0) F (F + Int.ofNat m)) _ (mem8 hw8)) (hold_eq (oMay_leaf hmask) hold_nil) (fun _ t6 k6 => ?_) (fun h => absurd rfl h)
        exact ret t6 _ (by simpa using k6)
      · rintro x t5 hp5 hx ⟨rfl, _⟩
        exact absurd rfl hx
    cases nu with
    | true =>
      have a1 := app36 (hp := [rwB (cellsO ((runI F (m + 1)).map some)) g false]) (i := 0) (g := g) (n := m + 1) (os := (runI F (m + 1)).map some) none rfl (runI_len F (m + 1)) (by omega)
      refine Tri.step hR hr hN hk rfl (xp_nul A (cellsO ((runI F (m + 1)).map some)) V O g (m + 1)) (hold_eq (by rw [a1, ← cellsO_app _ none]; rfl) hold_nil) (fun _ t2 k2 => ?_) (fun h => absurd rfl h)
      have e1 : cellsO ((runI F (m + 1)).map some) ++ nulC = cellsO (rowX F (m + 1) true) := (cellsO_app _ none).symm
      rw [e1]
      refine tail t2 (g + 1) ?_
      rw [k2, hlen]; rfl
    | false =>
      refine Tri.step hR hr hN hk rfl (xp_non A V O (.ref 0 g 0 (m + 1)) _) hold_nil (fun _ t2 k2 => ?_) (fun h => absurd rfl h)
      have e1 : (runI F (m + 1)).map some = rowX F (m + 1) false := by unfold rowX; rw [cond_false, List.append_nil]
      rw [e1]
      refine tail t2 g ?_
      rw [k2, hlen]; rfl
  · rintro x t' hp' hx ⟨rfl, _⟩
    exact absurd rfl hx
end
end Go.Proofs.Ytdahjdfjpckdcaa
