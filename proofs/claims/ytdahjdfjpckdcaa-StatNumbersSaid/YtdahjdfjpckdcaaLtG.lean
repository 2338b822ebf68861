/- What a column of numbers and Nulls has: the contract of Of. -/
import Derived.Test.YtdahjdfjpckdcaaLtF
namespace Go.Proofs.Ytdahjdfjpckdcaa
open Go Go.Vm
set_option maxRecDepth 100000
abbrev sfK : List Nat := [1, 4, 7, 8, 9, 23, 24, 25]
abbrev sfS (os : List (Option Int)) (s8 s9 : AV) (i : Nat) : List AV := [wN 1, .ptr 0 0 0, .ptr 1 0 0, s8, s9, .lst os.length (cellsO os), wN (Int.ofNat os.length), wN (Int.ofNat i)]
def sfI (os : List (Option Int)) (i : Nat) (s8 s9 : AV) (hp : List Blk) : Prop :=
  (numN (os.take i) = [] ∧ s8 = nilS ∧ s9 = nilS ∧ hp = [zS, sB' os.length (nulN (os.take i))]) ∨
  (∃ g, numN (os.take i) ≠ [] ∧ s8 = .ref 2 g 0 (numN (os.take i)).length ∧ s9 = .ref 3 g 0 (numN (os.take i)).length ∧
    hp = [zS, sB' os.length (nulN (os.take i)), rwB (cellsO ((numN (os.take i)).map some)) g false, ptB (numN (os.take i)).length g])
theorem cells_some (l : List Int) (n : Int) : cellsO ((l ++ [n]).map some) = cellsO (l.map some) ++ valC n := by
  rw [List.map_append]; exact cellsO_app _ (some n)
section
variable {F G H : OvF} (os : List (Option Int)) (h64 : os.length ≤ 64) (hR : RunOk Try.prog (hV F G H)) (hr : RunsOk (hV F G H) (hS F G H))
include h64 hR hr
theorem sf_body (i : Nat) (hlt : i < os.length) (s8 s9 : AV) (hp : List Blk) (hI : sfI os i s8 s9 hp) (t : Tr) (hk : sfK.map t.get = sfS os s8 s9 i) (Post : Ex → Tr → List Blk → Prop)
    (hpost : ∀ (t' : Tr) (s8' s9' : AV) (hp' : List Blk), sfI os (i + 1) s8' s9' hp' → sfK.map t'.get = sfS os s8' s9' (i + 1) → Post .nrm t' hp') : Tri Try.prog 66 0 sfB t hp Post := by
  have hN : 66 < 16383 := by decide
  have hup : ∀ (t1 : Tr) (s8' s9' : AV) (hp' : List Blk), sfI os (i + 1) s8' s9' hp' → Tri Try.prog 66 0 (cN 3 sfB) (mk (sfK.zip (sfS os s8' s9' i))) hp' Post := by
    intro t1 s8' s9' hp' hI'
    exact Tri.last hR hr hN (keep := sfK) (vals := sfS os s8' s9' i) rfl rfl (sf_up F G H (cellsO os) os.length i s8' s9' hp') (hold_eq (up_of (by omega)) hold_nil) (fun t' h' => hpost t' s8' s9' hp' hI' h')
  have htake : os.take (i + 1) = os.take i ++ [os[i]] := List.take_succ_eq_append_getElem hlt
  have hc := lt_of hlt
  have hl : (numN (os.take i)).length ≤ i := by have := nn_len (os.take i); rw [List.length_take] at this; omega
  have hl2 : nulN (os.take i) ≤ i := by have := nn_len (os.take i); rw [List.length_take] at this; omega
  rw [sfB_eq]
  rcases hI with ⟨hn, rfl, rfl, rfl⟩ | ⟨g, hn, rfl, rfl, rfl⟩
  · have hel := ldO_at hlt [zS, sB' os.length (nulN (os.take i))]
    cases ho : os[i] with
    | none =>
      rw [ho] at hel
      refine Tri.step hR hr hN hk rfl (sf_P1 F G H (cellsO os) os.length i (nulN (os.take i))) (hold_eq (up_of (by omega)) (hold_eq hel (hold_eq (ixO_eq hlt) (hold_T hc hold_nil)))) (fun _ t1 k1 => ?_) (fun h => absurd rfl h)
      refine Tri.drop (js := [0, 1]) (l := [0, 1]) rfl (by decide) (by simp) (sub := [zS, sB' os.length (nulN (os.take i) + 1)]) rfl k1 rfl (vals' := sfS os nilS nilS i) rfl ?_
      refine hup t1 _ _ _ (.inl ⟨?_, rfl, rfl, ?_⟩)
      · rw [htake, ho, numN_app, hn]; rfl
      · rw [htake, ho, nulN_app]
    | some n =>
      rw [ho] at hel
      refine Tri.step hR hr hN hk rfl (sf_P3 F G H (cellsO os) os.length i (nulN (os.take i)) n) (hold_eq hel (hold_eq (ixO_eq hlt) (hold_T hc hold_nil))) (fun _ t1 k1 => ?_) (fun h => absurd rfl h)
      refine Tri.drop (js := [0, 1, 3, 4]) (l := [0, 1, 3, 4]) rfl (by decide) (by simp) (sub := [zS, sB' os.length (nulN (os.take i)), rwB (valC n) 0 false, ptB 1 0]) rfl k1 rfl (vals' := sfS os (.ref 2 0 0 1) (.ref 3 0 0 1) i) rfl ?_
      have e1 : numN (os.take (i + 1)) = [n] := by rw [htake, ho, numN_app, hn]; rfl
      have e2 : nulN (os.take (i + 1)) = nulN (os.take i) := by rw [htake, ho, nulN_app]; rfl
      exact hup t1 _ _ _ (.inr ⟨0, by rw [e1]; simp, by rw [e1]; rfl, by rw [e1]; rfl, by rw [e1, e2]; rfl⟩)
  · have hel := ldO_at hlt [zS, sB' os.length (nulN (os.take i)), rwB (cellsO ((numN (os.take i)).map some)) g false, ptB (numN (os.take i)).length g]
    cases ho : os[i] with
    | none =>
      rw [ho] at hel
      refine Tri.step hR hr hN hk rfl (sf_P2 F G H (cellsO os) (cellsO ((numN (os.take i)).map some)) os.length i (nulN (os.take i)) g (numN (os.take i)).length) (hold_eq (up_of (by omega)) (hold_eq hel (hold_eq (ixO_eq hlt) (hold_T hc hold_nil)))) (fun _ t1 k1 => ?_) (fun h => absurd rfl h)
      refine Tri.drop (js := [0, 1, 2, 3]) (l := [0, 1, 2, 3]) rfl (by decide) (by simp) (sub := [zS, sB' os.length (nulN (os.take i) + 1), rwB (cellsO ((numN (os.take i)).map some)) g false, ptB (numN (os.take i)).length g]) rfl k1 rfl (vals' := sfS os (.ref 2 g 0 (numN (os.take i)).length) (.ref 3 g 0 (numN (os.take i)).length) i) rfl ?_
      have e1 : numN (os.take (i + 1)) = numN (os.take i) := by rw [htake, ho, numN_app]; simp
      have e2 : nulN (os.take (i + 1)) = nulN (os.take i) + 1 := by rw [htake, ho, nulN_app]
      exact hup t1 _ _ _ (.inr ⟨g, by rw [e1]; exact hn, by rw [e1], by rw [e1], by rw [e1, e2]⟩)
    | some n =>
      rw [ho] at hel
      have hlen : ((numN (os.take i)).map some).length = (numN (os.take i)).length := by simp
      have a1 := app36 (hp := [zS, sB' os.length (nulN (os.take i)), rwB (cellsO ((numN (os.take i)).map some)) g false, ptB (numN (os.take i)).length g, bC' (valC n)]) (i := 2) (g := g) (n := (numN (os.take i)).length) (os := (numN (os.take i)).map some) (some n) rfl hlen (by omega)
      have a2 := app93 (hp := [zS, sB' os.length (nulN (os.take i)), rwB (cellsO ((numN (os.take i)).map some) ++ valC n) (g + 1) false, ptB (numN (os.take i)).length g, bC' (valC n)]) (i := 3) (g := g) (k := (numN (os.take i)).length) rfl (by omega)
      refine Tri.step hR hr hN hk rfl (sf_P4 F G H (cellsO os) (cellsO ((numN (os.take i)).map some)) os.length i (nulN (os.take i)) g (numN (os.take i)).length n) (hold_eq (by rw [a2]; rfl) (hold_eq (by rw [a1, ← cellsO_app _ (some n)]; rfl) (hold_eq hel (hold_eq (ixO_eq hlt) (hold_T hc hold_nil))))) (fun _ t1 k1 => ?_) (fun h => absurd rfl h)
      refine Tri.drop (js := [0, 1, 2, 3]) (l := [0, 1, 2, 3]) rfl (by decide) (by simp) (sub := [zS, sB' os.length (nulN (os.take i)), rwB (cellsO ((numN (os.take i)).map some) ++ valC n) (g + 1) false, ptB ((numN (os.take i)).length + 1) (g + 1)]) rfl k1 rfl (vals' := sfS os (.ref 2 (g + 1) 0 ((numN (os.take i)).length + 1)) (.ref 3 (g + 1) 0 ((numN (os.take i)).length + 1)) i) rfl ?_
      have e1 : numN (os.take (i + 1)) = numN (os.take i) ++ [n] := by rw [htake, ho, numN_app]
      have e2 : nulN (os.take (i + 1)) = nulN (os.take i) := by rw [htake, ho, nulN_app]; rfl
      have e3 : (numN (os.take i) ++ [n]).length = (numN (os.take i)).length + 1 := by simp
      exact hup t1 _ _ _ (.inr ⟨g + 1, by rw [e1]; simp, by rw [e1, e3], by rw [e1, e3], by rw [e1, e2, e3, cells_some]⟩)

theorem sf_tri (hF : outF (F [.lst os.length (cellsO os), wN 1] []) = wN 0) (hG : ∀ n r, numN os = n :: r → outF (G [.lst (r.length + 1) (cellsO ((n :: r).map some)), fnC] []) = .agg (valC (r.foldl miF n)))
    (hH : ∀ n r, numN os = n :: r → outF (H [.lst (r.length + 1) (cellsO ((n :: r).map some)), fnC] []) = .agg (valC (r.foldl mxF n))) :
    Tri Try.prog 66 0 sf (frameOf 0 [.lst os.length (cellsO os), wN 1] .lf) [] (fun x t hp => x = .ret ∧ t.get 4 = .ptr 0 0 0 ∧ t.get 5 = wN 0 ∧ hp = [bC' (statO os), bC' (statO os)]) := by
  have hN : 66 < 16383 := by decide
  have ret : ∀ (t : Tr), t.get 4 = .ptr 0 0 0 → t.get 5 = wN 0 → Tri Try.prog 66 0 .ret t [bC' (statO os), bC' (statO os)] (fun x t hp => x = .ret ∧ t.get 4 = .ptr 0 0 0 ∧ t.get 5 = wN 0 ∧ hp = [bC' (statO os), bC' (statO os)]) :=
    fun t h1 h2 => Tri.run (M := mG F G H) (n := 1) hR hN (x := .ret) (t' := t) rfl ⟨rfl, h1, h2, rfl⟩
  rw [sf_eq]
  refine Tri.step hR hr hN (keep := [0, 1]) (vals := [.lst os.length (cellsO os), wN 1]) rfl rfl (sf_pre F G H (cellsO os) os.length) (hold_eq hF hold_nil) (fun _ t1 k1 => ?_) (fun h => absurd rfl h)
  refine Tri.seq (Mid := fun x t hp => x = .nrm ∧ ∃ s8 s9, [1, 4, 7, 8].map t.get = [wN 1, .ptr 0 0 0, .ptr 1 0 0, s8] ∧ sfI os os.length s8 s9 hp) ?_ ?_ ?_
  · refine Tri.step hR hr hN (l := [cL (cL (cN 5 sf))]) (c := .block 0 (.loop sfB)) k1 rfl (sf_i0 F G H (cellsO os) os.length _) hold_nil (fun _ t2 k2 => ?_) (fun h => absurd rfl h)
    refine Tri.block (Tri.loop (fun j t hp => ∃ i s8 s9, i + j = os.length ∧ sfK.map t.get = sfS os s8 s9 i ∧ sfI os i s8 s9 hp) ?_ (k := os.length) ⟨0, _, _, by omega, k2, .inl ⟨rfl, rfl, rfl, rfl⟩⟩)
    rintro j t hp ⟨i, s8, s9, hi, hk, hI⟩
    by_cases hlt : i < os.length
    · exact sf_body os h64 hR hr i hlt s8 s9 hp hI t hk _ (fun t' s8' s9' hp' hI' hk' => .inl ⟨rfl, j - 1, by omega, i + 1, s8', s9', by omega, hk', hI'⟩)
    · have he : i = os.length := by omega
      rw [sfB_eq]
      refine Tri.step hR hr hN hk rfl (sf_out F G H (cellsO os) os.length i s8 s9 hp) (hold_F (by simp only [Int.ofNat_eq_natCast]; omega) hold_nil) (fun h => by cases h) (fun _ t' k => .inr ⟨by simp, rfl, s8, s9, k, ?_⟩)
      rw [← he]; exact hI
  · rintro t' hp' ⟨_, s8, s9, hk, hI⟩
    rcases hI with ⟨hn, rfl, rfl, rfl⟩ | ⟨g, hn, rfl, rfl, rfl⟩
    · rw [List.take_length] at hn ⊢
      refine Tri.step hR hr hN hk rfl (sf_endA F G H os.length (nulN os)) hold_nil (fun _ t3 h3 => ?_) (fun h => absurd rfl h)
      have e : statO os = statZ (Int.ofNat os.length) (Int.ofNat (nulN os)) := by unfold statO; rw [hn]
      rw [← e]
      simp only [List.map_cons, List.map_nil, List.cons.injEq, and_true] at h3
      exact ret t3 h3.1 h3.2
    · rw [List.take_length] at hn hk ⊢
      obtain ⟨n, r, hnr⟩ : ∃ n r, numN os = n :: r := by
        cases hq : numN os with
        | nil => exact absurd hq hn
        | cons n r => exact ⟨n, r, rfl⟩
      have hlen : (numN os).length = r.length + 1 := by rw [hnr]; simp
      rw [hlen] at hk ⊢
      rw [hnr]
      refine Tri.of_keep hk rfl ?_
      refine Tri.frz (i := 8) (by decide) (v := .lst (r.length + 1) (cellsO ((n :: r).map some))) (hp' := [zS, sB' os.length (nulN os), rwB (cellsO ((n :: r).map some)) g true, ptB (r.length + 1) g]) ?_ ?_
      · exact frz_ref (hp := [zS, sB' os.length (nulN os), rwB (cellsO ((n :: r).map some)) g false, ptB (r.length + 1) g]) (i := 2) (g := g) (n := r.length + 1) (b := rwB (cellsO ((n :: r).map some)) g false) rfl rfl rfl (by rw [cellsO_len]; simp)
      refine Tri.drop (js := [0, 1]) (l := [0, 1]) rfl (by decide) (by simp) (sub := [zS, sB' os.length (nulN os)]) rfl (keep := [1, 4, 7, 8]) (vals := [wN 1, .ptr 0 0 0, .ptr 1 0 0, .lst (r.length + 1) (cellsO ((n :: r).map some))]) rfl rfl (vals' := [wN 1, .ptr 0 0 0, .ptr 1 0 0, .lst (r.length + 1) (cellsO ((n :: r).map some))]) rfl ?_
      refine Tri.step hR hr hN (keep := [1, 4, 7, 8]) (vals := [wN 1, .ptr 0 0 0, .ptr 1 0 0, .lst (r.length + 1) (cellsO ((n :: r).map some))]) rfl rfl (sf_end F G H (cellsO ((n :: r).map some)) os.length (nulN os) r.length (r.foldl miF n) (r.foldl mxF n)) (hold_eq (hH n r hnr) (hold_eq (hG n r hnr) (hold_b (by simp; omega) hold_nil))) (fun _ t3 h3 => ?_) (fun h => absurd rfl h)
      have e : statO os = statC (Int.ofNat os.length) (Int.ofNat (nulN os)) (r.foldl miF n) (r.foldl mxF n) := by unfold statO; rw [hnr]
      rw [← e]
      simp only [List.map_cons, List.map_nil, List.cons.injEq, and_true] at h3
      exact ret t3 h3.1 h3.2
  · rintro x t' hp' hx ⟨rfl, _⟩
    exact absurd rfl hx
end
end Go.Proofs.Ytdahjdfjpckdcaa

