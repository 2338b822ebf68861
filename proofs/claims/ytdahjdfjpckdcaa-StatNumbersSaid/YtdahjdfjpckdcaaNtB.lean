/- StatNumbers: the call. -/
import Derived.Test.YtdahjdfjpckdcaaNtA
namespace Go.Proofs.Ytdahjdfjpckdcaa
open Go Go.Vm
set_option maxRecDepth 100000
def inI4 (z : Int) : Prop := -2147483648 ≤ z ∧ z ≤ 2147483647
def rowP (zs : List Int) (bs : List Bool) : List (Option Int) := (zs.zip bs).map fun q => cond q.2 none (some q.1)
theorem rowP_len {zs : List Int} {bs : List Bool} (h : zs.length ≤ bs.length) : (rowP zs bs).length = zs.length := by
  unfold rowP; rw [List.length_map, List.length_zip]; omega
theorem rowP_at {zs : List Int} {bs : List Bool} (h : zs.length ≤ bs.length) {i : Nat} (hi : i < zs.length) : (rowP zs bs)[i]'(by rw [rowP_len h]; exact hi) = cond (bs[i]'(by omega)) none (some zs[i]) := by
  unfold rowP; simp
theorem numN_mem : ∀ (zs : List Int) (bs : List Bool) (n : Int), n ∈ numN (rowP zs bs) → n ∈ zs
  | [], bs, n, h => by simp [rowP, numN] at h
  | z :: zs, [], n, h => by simp [rowP, numN] at h
  | z :: zs, b :: bs, n, h => by
    have ih := numN_mem zs bs n
    unfold rowP at h ih
    rw [List.zip_cons_cons, List.map_cons] at h
    cases b with
    | true => simp only [cond_true, numN] at h; exact List.mem_cons_of_mem _ (ih h)
    | false =>
      simp only [cond_false, numN, List.mem_cons] at h
      rcases h with rfl | h
      · exact List.mem_cons_self ..
      · exact List.mem_cons_of_mem _ (ih h)
theorem agg21 : isAggT Try.prog 21 = some false := by kernel_rfl
theorem agg4 : isAggT Try.prog 4 = some false := by kernel_rfl
theorem at4 {zs : List Int} {i : Nat} (h : i < zs.length) : (zs.map vI4)[i * 1]? = some (vI4 zs[i]) := by
  rw [Nat.mul_one, List.getElem?_map, List.getElem?_eq_getElem h]; rfl
theorem atB {bs : List Bool} {i : Nat} (h : i < bs.length) : (bs.map wB)[i * 1]? = some (wB bs[i]) := by
  rw [Nat.mul_one, List.getElem?_map, List.getElem?_eq_getElem h]; rfl
abbrev pK : List Nat := [0, 1, 2, 7, 8, 9, 10, 11]
abbrev pS (zs : List Int) (bs : List Bool) (V : Int) (r : AV) (lo hi : Int) (nl i : Nat) : List AV := [.lst zs.length (zs.map vI4), .lst bs.length (bs.map wB), vI4 V, r, wN lo, wN hi, wN (Int.ofNat nl), wN (Int.ofNat i)]
def pI (os : List (Option Int)) (i : Nat) (r : AV) (hp : List Blk) : Prop := (i = 0 ∧ r = nilS ∧ hp = []) ∨ (∃ g, 0 < i ∧ r = .ref 0 g 0 i ∧ hp = [rwB (cellsO (os.take i)) g false])
abbrev loT : Int := 1099511627776
abbrev hiT : Int := -1099511627776
theorem of_nil : FnOk Try.prog 17 [nilS, wN 1] [] (.tup [.agg (statZ 0 0), wN 0]) [] := runV_ok (M := m0') ok0' 60 _ _ _ _ _ (by kernel_rfl)
theorem cmp3_le' {n m : Int} : cmp3 n m ≤ 0 ↔ n ≤ m := by unfold cmp3; split <;> (try split) <;> omega
section
variable {A : OvF} (hR : RunOk Try.prog (zV A)) (hr : RunsOk (zV A) (zQ A))
include hR hr
theorem p_body {zs : List Int} {bs : List Bool} {os : List (Option Int)} (hz : ∀ z ∈ zs, inI4 z) (hlen : zs.length ≤ bs.length) (hlo : os.length = zs.length) (hoa : ∀ i (h : i < zs.length), os[i]'(by omega) = cond (bs[i]'(by omega)) none (some zs[i])) (h60 : zs.length ≤ 60) {V : Int} {i : Nat} (hlt : i < zs.length) {r : AV} {hp : List Blk} (hI : pI os i r hp) {t : Tr}
    (hk : pK.map t.get = pS zs bs V r ((numN (os.take i)).foldl miF loT) ((numN (os.take i)).foldl mxF hiT) (nulN (os.take i)) i) (Post : Ex → Tr → List Blk → Prop)
    (hpost : ∀ (t' : Tr) (r' : AV) (hp' : List Blk), pI os (i + 1) r' hp' → pK.map t'.get = pS zs bs V r' ((numN (os.take (i + 1))).foldl miF loT) ((numN (os.take (i + 1))).foldl mxF hiT) (nulN (os.take (i + 1))) (i + 1) → Post .nrm t' hp') :
    Tri Try.prog 145 0 sn t hp Post := by
  have hN : 145 < 16383 := by decide
  have hib : i < bs.length := by omega
  have hio : i < os.length := by omega
  have hat := hoa i hlt
  have htake : os.take (i + 1) = os.take i ++ [os[i]] := List.take_succ_eq_append_getElem hio
  have hzi := hz _ (List.getElem_mem hlt)
  have wz : wN (IntKind.wrap .i64 zs[i]) = wN zs[i] := by rw [wrap_in (by have := hzi.1; omega) (by have := hzi.2; omega)]
  have hl2 : nulN (os.take i) ≤ i := by have := nn_len (os.take i); rw [List.length_take] at this; omega
  have htl : (os.take i).length = i := by rw [List.length_take]; omega
  have hup : ∀ (t1 : Tr) (r' : AV) (hp' : List Blk), pI os (i + 1) r' hp' → pK.map t1.get = pS zs bs V r' ((numN (os.take (i + 1))).foldl miF loT) ((numN (os.take (i + 1))).foldl mxF hiT) (nulN (os.take (i + 1))) i → Tri Try.prog 145 0 (cN 2 sn) t1 hp' Post := by
    intro t1 r' hp' hI' h1
    exact Tri.last hR hr hN h1 rfl (sp_up A _ _ _ _ i _ V _ _ r' hp') (hold_eq (up_of (by omega)) hold_nil) (fun t' h' => hpost t' r' hp' hI' h')
  have hc := lt_of hlt
  rw [sn_eq]
  have iz : ∀ hp : List Blk, ixO i zs.length (zs.map vI4) (i * 1) hp = .ip (zs.map vI4) (i * 1) := fun hp => ixO_eq hlt
  have lz : ∀ hp : List Blk, ldO Try.prog 21 (zs.map vI4) (i * 1) hp = vI4 zs[i] := fun hp => ldO_eq agg21 (at4 hlt)
  have ib : ∀ hp : List Blk, ixO i bs.length (bs.map wB) (i * 1) hp = .ip (bs.map wB) (i * 1) := fun hp => ixO_eq hib
  have lb : ∀ hp : List Blk, ldO Try.prog 4 (bs.map wB) (i * 1) hp = wB bs[i] := fun hp => ldO_eq agg4 (atB hib)
  cases hb : bs[i] with
  | true =>
    rw [hb] at hat lb
    have e0 : os[i] = none := hat
    have e1 : numN (os.take (i + 1)) = numN (os.take i) := by rw [htake, e0, numN_app]; simp
    have e2 : nulN (os.take (i + 1)) = nulN (os.take i) + 1 := by rw [htake, e0, nulN_app]
    have e3 : cellsO (os.take (i + 1)) = cellsO (os.take i) ++ nulC := by rw [htake, e0]; exact cellsO_app _ none
    rw [e1, e2] at hup
    rcases hI with ⟨rfl, rfl, rfl⟩ | ⟨g, h0, rfl, rfl⟩
    · refine Tri.step hR hr hN hk rfl (sp_N1 A _ _ zs.length bs.length 0 _ V _ _) (hold_eq (up_of (by omega)) (hold_eq (lb _) (hold_eq (ib _) (hold_T hc hold_nil)))) (fun _ t1 k1 => hup t1 _ _ (.inr ⟨0, by omega, rfl, ?_⟩) k1) (fun h => absurd rfl h)
      rw [e3]; rfl
    · have a1 := app36 (hp := [rwB (cellsO (os.take i)) g false]) (i := 0) (g := g) (n := i) (os := os.take i) none rfl htl (by omega)
      refine Tri.step hR hr hN hk rfl (sp_N2 A _ _ (cellsO (os.take i)) zs.length bs.length i _ g i V _ _) (hold_eq (up_of (by omega)) (hold_eq (by rw [a1, ← cellsO_app _ none]; rfl) (hold_eq (lb _) (hold_eq (ib _) (hold_T hc hold_nil))))) (fun _ t1 k1 => hup t1 _ _ (.inr ⟨g + 1, by omega, rfl, ?_⟩) k1) (fun h => absurd rfl h)
      rw [e3]
  | false =>
    rw [hb] at hat lb
    have e0 : os[i] = some zs[i] := hat
    have e1 : numN (os.take (i + 1)) = numN (os.take i) ++ [zs[i]] := by rw [htake, e0, numN_app]
    have e2 : nulN (os.take (i + 1)) = nulN (os.take i) := by rw [htake, e0, nulN_app]; rfl
    have e3 : cellsO (os.take (i + 1)) = cellsO (os.take i) ++ valC zs[i] := by rw [htake, e0]; exact cellsO_app _ (some zs[i])
    rw [e1, e2, List.foldl_append, List.foldl_append] at hup
    have emi : ∀ lo : Int, wN (if zs[i] < lo then zs[i] else lo) = wN (miF lo zs[i]) := fun lo => rfl
    have emx : ∀ hi : Int, wN (if zs[i] > hi then zs[i] else hi) = wN (mxF hi zs[i]) := fun hi => rfl
    rcases hI with ⟨rfl, rfl, rfl⟩ | ⟨g, h0, rfl, rfl⟩
    · refine Tri.step hR hr hN hk rfl (sp_S1 A _ _ zs.length bs.length 0 _ V _ _ zs[0]) (hold_eq (emx _) (hold_eq wz (hold_eq (lz _) (hold_eq (iz _) (hold_eq (emi _) (hold_eq wz (hold_eq (lz _) (hold_eq (iz _) (hold_eq wz (hold_eq (lz _) (hold_eq (iz _) (hold_eq (lb _) (hold_eq (ib _) (hold_T hc hold_nil)))))))))))))) (fun _ t1 k1 => hup t1 _ _ (.inr ⟨0, by omega, rfl, ?_⟩) k1) (fun h => absurd rfl h)
      rw [e3]; rfl
    · have a1 := app36 (hp := [rwB (cellsO (os.take i)) g false]) (i := 0) (g := g) (n := i) (os := os.take i) (some zs[i]) rfl htl (by omega)
      refine Tri.step hR hr hN hk rfl (sp_S2 A _ _ (cellsO (os.take i)) zs.length bs.length i _ g i V _ _ zs[i]) (hold_eq (emx _) (hold_eq wz (hold_eq (lz _) (hold_eq (iz _) (hold_eq (emi _) (hold_eq wz (hold_eq (lz _) (hold_eq (iz _) (hold_eq (by rw [a1, ← cellsO_app _ (some zs[i])]; rfl) (hold_eq wz (hold_eq (lz _) (hold_eq (iz _) (hold_eq (lb _) (hold_eq (ib _) (hold_T hc hold_nil))))))))))))))) (fun _ t1 k1 => hup t1 _ _ (.inr ⟨g + 1, by omega, rfl, ?_⟩) k1) (fun h => absurd rfl h)
      rw [e3]

theorem p_tri {zs : List Int} {bs : List Bool} (hz : ∀ z ∈ zs, inI4 z) {V : Int} (hV : inI4 V) (hA0 : zs.length = 0 → outF (A [nilS, wN 1] []) = .tup [.agg (statZ 0 0), wN 0])
    (hA : zs.length ≤ 60 → zs.length ≤ bs.length → 0 < zs.length → outF (A [.lst (rowP zs bs).length (cellsO (rowP zs bs)), wN 1] []) = .tup [.agg (statO (rowP zs bs)), wN 0]) :
    Tri Try.prog 145 0 se (frameOf 0 [.lst zs.length (zs.map vI4), .lst bs.length (bs.map wB), vI4 V] .lf) [] (fun x t _ => x = .ret ∧ t.get 6 = wB true) := by
  have hN : 145 < 16383 := by decide
  have ret : ∀ (t : Tr) (l : List Blk), t.get 6 = wB true → Tri Try.prog 145 0 .ret t l (fun x t _ => x = .ret ∧ t.get 6 = wB true) := fun t l h => Tri.run (M := mZ A) (n := 1) hR hN (x := .ret) (t' := t) (hp' := l) rfl ⟨rfl, h⟩
  rw [se_eq]
  by_cases h1 : Int.ofNat zs.length > 60
  · exact Tri.step hR hr hN (keep := [0, 1, 2]) (vals := [.lst zs.length (zs.map vI4), .lst bs.length (bs.map wB), vI4 V]) rfl rfl (sp_long A _ _ _ _ V) (hold_T h1 hold_nil) (fun h => by cases h) (fun _ t h => ⟨rfl, by simpa using h⟩)
  by_cases h2 : Int.ofNat bs.length < Int.ofNat zs.length
  · exact Tri.step hR hr hN (keep := [0, 1, 2]) (vals := [.lst zs.length (zs.map vI4), .lst bs.length (bs.map wB), vI4 V]) rfl rfl (sp_few A _ _ _ _ V) (hold_T h2 (hold_F h1 hold_nil)) (fun h => by cases h) (fun _ t h => ⟨rfl, by simpa using h⟩)
  have h60 : zs.length ≤ 60 := by simp only [Int.ofNat_eq_natCast] at h1; omega
  have hlen : zs.length ≤ bs.length := by simp only [Int.ofNat_eq_natCast] at h2; omega
  have hlo := rowP_len hlen
  refine Tri.step hR hr hN (keep := [0, 1, 2]) (vals := [.lst zs.length (zs.map vI4), .lst bs.length (bs.map wB), vI4 V]) rfl rfl (sp_pre A _ _ _ _ V) (hold_F h2 (hold_F h1 hold_nil)) (fun _ t1 k1 => ?_) (fun h => absurd rfl h)
  refine Tri.seq (Mid := fun x t hp => x = .nrm ∧ ∃ r, [0, 2, 7, 8, 9, 10].map t.get = [.lst zs.length (zs.map vI4), vI4 V, r, wN ((numN (rowP zs bs)).foldl miF loT), wN ((numN (rowP zs bs)).foldl mxF hiT), wN (Int.ofNat (nulN (rowP zs bs)))] ∧ pI (rowP zs bs) zs.length r hp) ?_ ?_ ?_
  · refine Tri.step hR hr hN (l := [cL (cL (cN 5 se))]) (c := .block 0 (.loop sn)) k1 rfl (sp_i0 A _ _ _ _ V _ _) hold_nil (fun _ t2 k2 => ?_) (fun h => absurd rfl h)
    refine Tri.block (Tri.loop (fun j t hp => ∃ i r, i + j = zs.length ∧ pK.map t.get = pS zs bs V r ((numN ((rowP zs bs).take i)).foldl miF loT) ((numN ((rowP zs bs).take i)).foldl mxF hiT) (nulN ((rowP zs bs).take i)) i ∧ pI (rowP zs bs) i r hp) ?_ (k := zs.length) ⟨0, _, by omega, k2, .inl ⟨rfl, rfl, rfl⟩⟩)
    rintro j t hp ⟨i, r, hi, hk, hI⟩
    by_cases hlt : i < zs.length
    · exact p_body hR hr hz hlen hlo (fun i h => rowP_at hlen h) h60 hlt hI hk _ (fun t' r' hp' hI' hk' => .inl ⟨rfl, j - 1, by omega, i + 1, r', by omega, hk', hI'⟩)
    · have he : i = (rowP zs bs).length := by omega
      rw [sn_eq]
      refine Tri.step hR hr hN hk rfl (sp_out A _ _ _ _ i _ V _ _ r hp) (hold_F (by simp only [Int.ofNat_eq_natCast]; omega) hold_nil) (fun h => by cases h) (fun _ t' k => .inr ⟨by simp, rfl, r, ?_, ?_⟩)
      · rw [k, he, List.take_length]
      · rw [← hlo, ← he]; exact hI
  · rintro t' hp' ⟨_, r, hk, hI⟩
    have wV : wN (IntKind.wrap .i64 V) = wN V := by rw [wrap_in (by have := hV.1; omega) (by have := hV.2; omega)]
    have ne : ∀ x : Int, (x != x) = false := fun x => by simp
    have nb : ∀ x : Bool, (x != x) = false := fun x => by simp
    have hsum := nn_len (rowP zs bs)
    have hmem := numN_mem zs bs
    rcases hI with ⟨h0, rfl, rfl⟩ | ⟨g, h0, rfl, rfl⟩
    · have hA' := hA0 h0
      have hn0 : nulN (rowP zs bs) = 0 := by omega
      rw [hn0] at hk
      refine Tri.step hR hr hN hk rfl (sp_nil A _ zs.length 0 V _ _) ?_ (fun h => by cases h) (fun _ t3 k3 => ⟨rfl, by simpa using k3⟩)
      refine hold_T (by rw [h0]; exact Int.le_refl _) (hold_eq wV (hold_b (by rw [h0]; rfl) (hold_b (nb _) (hold_b (ne _) (hold_b (ne _) (hold_eq ?_ hold_nil))))))
      rw [h0]; exact hA'
    · have hA' := hA h60 hlen h0
      generalize hos : rowP zs bs = os at *
      rw [← hlo, List.take_length]
      rw [← hlo] at hk
      refine Tri.of_keep hk rfl ?_
      refine Tri.frz (i := 7) (by decide) (v := .lst os.length (cellsO os)) (hp' := [rwB (cellsO os) g true]) ?_ ?_
      · exact frz_ref (hp := [rwB (cellsO os) g false]) (i := 0) (g := g) (n := os.length) (b := rwB (cellsO os) g false) rfl rfl rfl (cellsO_len os)
      refine Tri.drop (js := []) (l := []) rfl (by decide) (by simp) (sub := []) rfl (keep := [0, 2, 7, 8, 9, 10]) (vals := [.lst os.length (zs.map vI4), vI4 V, .lst os.length (cellsO os), wN ((numN os).foldl miF loT), wN ((numN os).foldl mxF hiT), wN (Int.ofNat (nulN os))]) rfl rfl (vals' := [.lst os.length (zs.map vI4), vI4 V, .lst os.length (cellsO os), wN ((numN os).foldl miF loT), wN ((numN os).foldl mxF hiT), wN (Int.ofNat (nulN os))]) rfl ?_
      cases hn : numN os with
      | nil =>
        rw [hn] at hsum
        have e : statO os = statZ (Int.ofNat os.length) (Int.ofNat (nulN os)) := by unfold statO; rw [hn]
        rw [e] at hA'
        have hnl : nulN os = os.length := by simpa using hsum
        refine Tri.step hR hr hN (keep := [0, 2, 7, 8, 9, 10]) (vals := [.lst os.length (zs.map vI4), vI4 V, .lst os.length (cellsO os), wN (([] : List Int).foldl miF loT), wN (([] : List Int).foldl mxF hiT), wN (Int.ofNat (nulN os))]) rfl rfl (sp_none A (zs.map vI4) (cellsO os) os.length (nulN os) V _ _) ?_ (fun h => by cases h) (fun _ t3 k3 => ⟨rfl, by simpa using k3⟩)
        exact hold_T (by rw [hnl]; exact Int.le_refl _) (hold_eq wV (hold_b (by rw [hnl]; simp) (hold_b (nb _) (hold_b (ne _) (hold_b (ne _) (hold_eq hA' hold_nil))))))
      | cons n q =>
        have e : statO os = statC (Int.ofNat os.length) (Int.ofNat (nulN os)) (q.foldl miF n) (q.foldl mxF n) := by unfold statO; rw [hn]
        rw [e] at hA'
        rw [hn] at hsum
        have hnz := hz n (hmem n (by rw [hn]; simp))
        have elo : (n :: q).foldl miF loT = q.foldl miF n := by
          rw [List.foldl_cons]; congr 1; unfold miF; rw [if_pos (show n < 1099511627776 by have := hnz.2; omega)]
        have ehi : (n :: q).foldl mxF hiT = q.foldl mxF n := by
          rw [List.foldl_cons]; congr 1; unfold mxF; rw [if_pos (show n > -1099511627776 by have := hnz.1; omega)]
        rw [elo, ehi]
        generalize q.foldl miF n = lo at *
        generalize q.foldl mxF n = hi at *
        have hlt2 : nulN os < os.length := by simp only [List.length_cons] at hsum; omega
        have hne : (Int.ofNat (nulN os) == Int.ofNat os.length) = false := by simp; omega
        have hnle : ¬ Int.ofNat os.length ≤ Int.ofNat (nulN os) := by simp only [Int.ofNat_eq_natCast]; omega
        have base : Hold [(wB (selfC hi), wB true), (wB (selfC lo), wB true), (wB (Int.ofNat (nulN os) == Int.ofNat os.length), wB false), (wB (decide (Int.ofNat (nulN os) > 0) != decide (Int.ofNat (nulN os) > 0)), wB false), (wB (Int.ofNat os.length != Int.ofNat os.length), wB false), (wB (Int.ofNat (nulN os) != Int.ofNat (nulN os)), wB false), (outF (A [.lst os.length (cellsO os), wN 1] []), .tup [.agg (statC (Int.ofNat os.length) (Int.ofNat (nulN os)) lo hi), wN 0])] :=
          hold_b (selfC_eq hi) (hold_b (selfC_eq lo) (hold_b hne (hold_b (nb _) (hold_b (ne _) (hold_b (ne _) (hold_eq hA' hold_nil))))))
        have vals0 : [0, 2, 7, 8, 9, 10].map (mk ([0, 2, 7, 8, 9, 10].zip [.lst os.length (zs.map vI4), vI4 V, .lst os.length (cellsO os), wN lo, wN hi, wN (Int.ofNat (nulN os))])).get = [.lst os.length (zs.map vI4), vI4 V, .lst os.length (cellsO os), wN lo, wN hi, wN (Int.ofNat (nulN os))] := rfl
        by_cases c1 : lo ≤ V
        · by_cases c2 : V ≤ hi
          · refine Tri.step hR hr hN vals0 rfl (sp_in A (zs.map vI4) (cellsO os) os.length (nulN os) V lo hi) ?_ (fun _ t3 k3 => ret t3 _ (by simpa using k3)) (fun h => absurd rfl h)
            exact hold_T c2 (hold_eq wV (hold_T (cmp3_le'.2 c2) (hold_T (cmp3_le'.2 c1) (hold_F hnle (hold_T c1 (hold_eq wV (hold_eq wV base)))))))
          · refine Tri.step hR hr hN vals0 rfl (sp_above A (zs.map vI4) (cellsO os) os.length (nulN os) V lo hi) ?_ (fun _ t3 k3 => ret t3 _ (by simpa using k3)) (fun h => absurd rfl h)
            exact hold_F c2 (hold_eq wV (hold_F (fun h => c2 (cmp3_le'.1 h)) (hold_T (cmp3_le'.2 c1) (hold_F hnle (hold_T c1 (hold_eq wV (hold_eq wV base)))))))
        · refine Tri.step hR hr hN vals0 rfl (sp_below A (zs.map vI4) (cellsO os) os.length (nulN os) V lo hi) ?_ (fun _ t3 k3 => ret t3 _ (by simpa using k3)) (fun h => absurd rfl h)
          exact hold_F (fun h => c1 (cmp3_le'.1 h)) (hold_F hnle (hold_F (fun h => c1 h) (hold_eq wV (hold_eq wV base))))
  · rintro x t' hp' hx ⟨rfl, _⟩
    exact absurd rfl hx
end
end Go.Proofs.Ytdahjdfjpckdcaa
