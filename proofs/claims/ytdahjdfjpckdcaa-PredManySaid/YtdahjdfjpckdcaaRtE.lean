/- PredMany: the law's loop. -/
import Derived.Test.YtdahjdfjpckdcaaRtD
namespace Go.Proofs.Ytdahjdfjpckdcaa
open Go Go.Vm
set_option maxRecDepth 100000
def dOf (z : Int) : Nat := (z.tmod 3).toNat
theorem dOf_ok {z : Int} (h : 0 ≤ z) : dOf z ∈ q3 ∧ vR8 (z.tmod 3) = vR8 (Int.ofNat (dOf z)) := by
  have h1 : 0 ≤ z.tmod 3 := Int.tmod_nonneg _ h
  have h2 : z.tmod 3 < 3 := Int.tmod_lt_of_pos _ (by decide)
  have h3 : z.tmod 3 = Int.ofNat (dOf z) := by unfold dOf; rw [Int.ofNat_eq_natCast, Int.toNat_of_nonneg h1]
  refine ⟨?_, by rw [← h3]⟩
  have : dOf z = 0 ∨ dOf z = 1 ∨ dOf z = 2 := by simp only [Int.ofNat_eq_natCast] at h3; omega
  simpa [q3] using this
/-- rows of kids, forth and back -/
def pmI (ds : List Nat) (i : Nat) (s4 s5 : AV) (hp : List Blk) : Prop :=
  (i = 0 ∧ s4 = nilS ∧ s5 = nilS ∧ hp = []) ∨ (i = 1 ∧ ∃ g, s4 = .ref 0 g 0 1 ∧ s5 = .lit 1 (kidsC (ds.take 1).reverse) ∧ hp = [kB (kidsC (ds.take 1)) g]) ∨
    (2 ≤ i ∧ ∃ g e, s4 = .ref 0 g 0 i ∧ s5 = .ref 1 e 0 i ∧ hp = [kB (kidsC (ds.take i)) g, kB (kidsC (ds.take i).reverse) e])
def pmJ (ds : List Nat) (i : Nat) (X : List AV) (a : Nat) (t : Tr) (hp : List Blk) : Prop :=
  ∃ s4' s5' js sub s4 s5, pK.map t.get = pS X a s4' s5' (fB ds (i + 1) 0) (fB ds (i + 1) 1) (fB ds (i + 1) 2) i ∧ js.Nodup ∧ (∀ j ∈ js, j < hp.length) ∧ pickB hp (posOf js) js = some sub ∧
    (pS X a s4' s5' (fB ds (i + 1) 0) (fB ds (i + 1) 1) (fB ds (i + 1) 2) i).map (ren (posOf js)) = pS X a s4 s5 (fB ds (i + 1) 0) (fB ds (i + 1) 1) (fB ds (i + 1) 2) i ∧ pmI ds (i + 1) s4 s5 sub
theorem take1 {ds : List Nat} {i : Nat} (h : i < ds.length) : kidsC (ds.take (i + 1)) = kidsC (ds.take i) ++ kidC ds[i] := by rw [List.take_succ_eq_append_getElem h, kidsC_app]
theorem take2 {ds : List Nat} {i : Nat} (h : i < ds.length) : kidsC (ds.take (i + 1)).reverse = kidC ds[i] ++ kidsC (ds.take i).reverse := by rw [List.take_succ_eq_append_getElem h, List.reverse_append, List.reverse_singleton, List.singleton_append, kidsC_cons]
theorem takeL {ds : List Nat} {i : Nat} (h : i ≤ ds.length) : (kidsC (ds.take i)).length = i * 9 := by rw [kidsC_len, List.length_take, Nat.min_eq_left h]
theorem frz_at {hp : List Blk} {i g n : Nat} {Y : List AV} (hb : hp[i]? = some (kB Y g)) (hn : Y.length = n * 9) : elemsOf hp (.ref i g 0 n) = some (n, Y) := by
  unfold elemsOf
  simp only [getB_at hb rfl]
  rw [show n * (kB Y g).esz = n * 9 from rfl, ldN_all (kB Y g).cells hn]
section
variable {E : OvR} (hR : RunOk Try.prog (pmV E)) (hr : RunsOk (pmV E) (pmS E))
include hR hr
theorem pm_round {zs : List Int} (hz : ∀ z ∈ zs, 0 ≤ z) {ds : List Nat} (hds : ds = zs.map dOf) (h8 : ds.length ≤ 8) {i : Nat} (hi : i < ds.length) {s4 s5 : AV} {t : Tr} {hp : List Blk}
    (hk : pK.map t.get = pS (zs.map vR8) ds.length s4 s5 (fB ds i 0) (fB ds i 1) (fB ds i 2) i) (hI : pmI ds i s4 s5 hp) :
    Tri Try.prog 111 0 pmK t hp (fun x t' hp' => x = .nrm ∧ pmJ ds i (zs.map vR8) ds.length t' hp') := by
  have hN : 111 < 16383 := by decide
  have hlen : ds.length = zs.length := by rw [hds, List.length_map]
  have hi' : i < zs.length := by omega
  have hdi : ds[i] = dOf zs[i] := by subst hds; rw [List.getElem_map]
  obtain ⟨hq, hrem⟩ := dOf_ok (hz zs[i] (List.getElem_mem hi'))
  rw [← hdi] at hq hrem
  have hX : (zs.map vR8)[i * 1]? = some (vR8 zs[i]) := by rw [Nat.mul_one, List.getElem?_map, List.getElem?_eq_getElem hi']; rfl
  have u0 := fB_up (x := 0) hi
  have u1 := fB_up (x := 1) hi
  have u2 := fB_up (x := 2) hi
  have t1 := take1 hi
  have t2 := take2 hi
  have tl := takeL (Nat.le_of_lt hi)
  have tlr : (kidsC (ds.take i).reverse).length = i * 9 := by rw [kidsC_len, List.length_reverse, List.length_take, Nat.min_eq_left (Nat.le_of_lt hi)]
  have tn : (ds.take i).reverse.length = i := by rw [List.length_reverse, List.length_take, Nat.min_eq_left (Nat.le_of_lt hi)]
  generalize hzi : zs[i] = z at *
  generalize hqi : ds[i] = q at *
  generalize zs.map vR8 = X at *
  rw [pmK_eq, r11_eq]
  rcases hI with ⟨rfl, rfl, rfl, rfl⟩ | ⟨rfl, g, rfl, rfl, rfl⟩ | ⟨h2, g, e, rfl, rfl, rfl⟩
  · refine Tri.swapStep (stands11 E) hR hr hN hk rfl (List.map_inj_left.1 (pm_r0 E X ds.length 0 z _ _ _ _ _) q hq) (hold_eq hrem (hold_eq (ldO_eq agg5R hX) (hold_eq (ixO_eq hi) hold_nil))) (fun t3 k3 => ?_)
    obtain ⟨orc, st, k1, k2⟩ := pm_k0 E hq hi hX hrem (decide (0 ∈ ds.take 0)) (decide (1 ∈ ds.take 0)) (decide (2 ∈ ds.take 0))
    refine Tri.last hR hr hN k3 rfl k1 k2 (fun t4 k4 => ⟨rfl, ?_⟩)
    rw [u0, u1, u2] at k4
    exact ⟨_, _, [1], [kB (kidC q) 0], .ref 0 0 0 1, .lit 1 (kidC q), k4, by decide, by simp, rfl, rfl, .inr (.inl ⟨rfl, 0, rfl, by rw [t2]; simp [kidsC], by rw [t1]; simp [kidsC]⟩)⟩
  · refine Tri.swapStep (stands11 E) hR hr hN hk rfl (List.map_inj_left.1 (pm_r1 E X ds.length 1 (kidsC (ds.take 1)) g z _ _ _ _ _) q hq) (hold_eq hrem (hold_eq (ldO_eq agg5R hX) (hold_eq (ixO_eq hi) hold_nil))) (fun t3 k3 => ?_)
    obtain ⟨orc, st, k1, k2⟩ := pm_k1 E (kidsC (ds.take 1)) (kidsC (ds.take 1).reverse) g 1 hq hi hX hrem (decide (0 ∈ ds.take 1)) (decide (1 ∈ ds.take 1)) (decide (2 ∈ ds.take 1)) (by rw [app44 (i := 0) hq rfl tl (by omega)]; rfl) (by rw [app44l (ds := (ds.take 1).reverse) rfl (src44x _ (.inl ⟨_, _, rfl⟩)) tn (by omega) (by omega)]; rfl)
    refine Tri.last hR hr hN k3 rfl k1 k2 (fun t4 k4 => ⟨rfl, ?_⟩)
    rw [u0, u1, u2] at k4
    refine ⟨_, _, [0, 2], [kB (kidsC (ds.take 1) ++ kidC q) (g + 1), kB (kidC q ++ kidsC (ds.take 1).reverse) 0], .ref 0 (g + 1) 0 2, .ref 1 0 0 2, k4, by decide, by simp, rfl, rfl, .inr (.inr ⟨by omega, g + 1, 0, rfl, rfl, by rw [t1, t2]⟩)⟩
  · refine Tri.swapStep (stands11 E) hR hr hN hk rfl (List.map_inj_left.1 (pm_r2 E X ds.length i (kidsC (ds.take i)) (kidsC (ds.take i).reverse) g e z _ _ _ _ _) q hq) (hold_eq hrem (hold_eq (ldO_eq agg5R hX) (hold_eq (ixO_eq hi) hold_nil))) (fun t3 k3 => ?_)
    obtain ⟨orc, st, k1, k2⟩ := pm_k2 E (kidsC (ds.take i)) (kidsC (ds.take i).reverse) g e i i hq hi hX hrem (decide (0 ∈ ds.take i)) (decide (1 ∈ ds.take i)) (decide (2 ∈ ds.take i)) (by rw [app44 (i := 0) hq rfl tl (by omega)]; rfl) (by rw [app44l (ds := (ds.take i).reverse) (frz_at (i := 1) (Y := kidsC (ds.take i).reverse) rfl tlr) (src44x _ (.inr ⟨_, _, _, rfl⟩)) tn (by omega) (by omega)]; rfl)
    refine Tri.last hR hr hN k3 rfl k1 k2 (fun t4 k4 => ⟨rfl, ?_⟩)
    rw [u0, u1, u2] at k4
    refine ⟨_, _, [0, 3], [kB (kidsC (ds.take i) ++ kidC q) (g + 1), kB (kidC q ++ kidsC (ds.take i).reverse) 0], .ref 0 (g + 1) 0 (i + 1), .ref 1 0 0 (1 + i), k4, by decide, by simp, rfl, rfl, .inr (.inr ⟨by omega, g + 1, 0, rfl, by rw [Nat.add_comm], by rw [t1, t2]⟩)⟩
end
end Go.Proofs.Ytdahjdfjpckdcaa
