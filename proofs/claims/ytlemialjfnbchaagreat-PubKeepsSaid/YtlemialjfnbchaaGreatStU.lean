/- The sum of a row of bytes: its two codes. Made by g22.py. -/
import Derived.Test.YtlemialjfnbchaaGreatVmCrc
import Derived.Test.YtlemialjfnbchaaGreatVmM
import Derived.Test.YtlemialjfnbchaaGreatVmS2
import Derived.KernelRfl
import Derived.Test.YtlemialjfnbchaaGreatProg

namespace Go.Proofs.YtlemialjfnbchaaGreat
open Go Go.Vm
set_option maxRecDepth 100000
namespace Sm
abbrev wN (n : Int) : AV := .p (.int .i64 n)
abbrev wB (b : Bool) : AV := .p (.bool b)
abbrev v8 (n : Nat) : AV := .p (.int .u8 (Int.ofNat n))
abbrev v32 (n : Nat) : AV := .p (.int .u32 (Int.ofNat n))
def cL : Code → Code | .seq a _ => a | c => c
def cR : Code → Code | .seq _ b => b | c => c
def cN : Nat → Code → Code | 0, c => c | n + 1, c => cN n (cR c)
def cI : Code → Code | .block _ c => c | .loop c => c | c => c
def bodyOf (f : Func) : Code := match f.body with | some c => c | none => .skip
def first (n : Nat) (c : Code) : List Code := (List.range n).map fun i => cL (cN i c)
def mS : Vm.Mode := ⟨fun _ => false, fun _ => none⟩
noncomputable abbrev sV := orV Tryz.prog mS 9
noncomputable abbrev sS := orS Tryz.prog mS 9
theorem okS (f : FuncId) (F : List AV → List Blk → Option (AV × List Blk)) (h : mS.ov f = some F) (args : List AV) (hp : List Blk) (r : AV) (hp' : List Blk) (_k : F args hp = some (r, hp')) : FnOk Tryz.prog f args hp r hp' := by cases h
theorem sRun : RunOk Tryz.prog sV := orV_ok okS 9
theorem sRuns : RunsOk sV sS := orS_ok 9
theorem agg8 : isAggT Tryz.prog 5 = some false := by kernel_rfl
noncomputable def su : Code := bodyOf Tryz.f186
noncomputable def suO : Code := cI (cI (cR (cL (cN 2 su))))
noncomputable def suB : Code := cI (cL (cN 2 suO))
noncomputable def suI : Code := cI (cI (cR (cN 2 suB)))
noncomputable def suK : Code := cI (cL (cN 2 suI))
theorem su_eq : su = seqs (first 2 su) (.seq (.seq (cL (cL (cN 2 su))) (.block 0 (.loop suO))) (seqs [cL (cN 3 su)] .ret)) := by kernel_rfl
theorem suO_eq : suO = seqs (first 2 suO) (.seq (.block 1 suB) (cN 3 suO)) := by kernel_rfl
theorem suB_eq : suB = seqs [cL suB, cL (cN 1 suB), cL (cN 2 suB)] (.block 2 (.loop suI)) := by kernel_rfl
theorem suI_eq : suI = seqs (first 2 suI) (.seq (.block 3 suK) (cN 3 suI)) := by kernel_rfl
section
variable (X : List AV) (n i j s x : Nat)
theorem su_pre : (exL Tryz.prog sS mS 31 60 (first 2 su) (mk ([0].zip [.lst n X])) [] ([], [])).map (Vm.seen [0, 3]) = some (.nrm, [.lst n X, v32 4294967295], [], ([], [])) := by kernel_rfl
theorem su_i0 : (exL Tryz.prog sS mS 31 60 [cL (cL (cN 2 su))] (mk ([0, 3].zip [.lst n X, v32 s])) [] ([], [])).map (Vm.seen [3, 7, 8, 9]) = some (.nrm, [v32 s, .lst n X, wN (Int.ofNat n), wN (Int.ofNat 0)], [], ([], [])) := by kernel_rfl
theorem su_in : (exL Tryz.prog sS mS 31 60 (first 2 suO) (mk ([3, 7, 8, 9].zip [v32 s, .lst n X, wN (Int.ofNat n), wN (Int.ofNat i)])) [] ([(0, wB true)], [])).map (Vm.seen [3, 7, 8, 9]) = some (.nrm, [v32 s, .lst n X, wN (Int.ofNat n), wN (Int.ofNat i)], [], ([], [(wB (decide (Int.ofNat i < Int.ofNat n)), wB true)])) := by kernel_rfl
theorem su_out : (exL Tryz.prog sS mS 31 60 (first 2 suO) (mk ([3, 7, 8, 9].zip [v32 s, .lst n X, wN (Int.ofNat n), wN (Int.ofNat i)])) [] ([(0, wB false)], [])).map (Vm.seen [3]) = some (.exit 0, [v32 s], [], ([], [(wB (decide (Int.ofNat i < Int.ofNat n)), wB false)])) := by kernel_rfl
theorem su_by : (exL Tryz.prog sS mS 31 60 [cL suB, cL (cN 1 suB), cL (cN 2 suB)] (mk ([3, 7, 8, 9].zip [v32 s, .lst n X, wN (Int.ofNat n), wN (Int.ofNat i)])) [] ([(0, .ifc 4294967295 (.ip X (i * 1))), (0, .ifc 4294967295 (v8 x)), (3, v32 x), (0, v32 j)], [])).map (Vm.seen [3, 7, 8, 9, 17]) = some (.nrm, [v32 j, .lst n X, wN (Int.ofNat n), wN (Int.ofNat i), wN (Int.ofNat 0)], [], ([], [(xorA s x, v32 j), (wrapA x, v32 x), (ldO Tryz.prog 5 X (i * 1) [], v8 x), (ixO i n X (i * 1) [], .ip X (i * 1))])) := by kernel_rfl
theorem su_up : (exS Tryz.prog sS mS 31 60 (cN 3 suO) (mk ([3, 7, 8, 9].zip [v32 s, .lst n X, wN (Int.ofNat n), wN (Int.ofNat i)])) [] ([(0, wN (Int.ofNat (i + 1)))], [])).map (Vm.seen [3, 7, 8, 9]) = some (.nrm, [v32 s, .lst n X, wN (Int.ofNat n), wN (Int.ofNat (i + 1))], [], ([], [(wN (IntKind.wrap .i64 (Int.ofNat i + 1)), wN (Int.ofNat (i + 1)))])) := by kernel_rfl
theorem su_jn : (exL Tryz.prog sS mS 31 60 (first 2 suI) (mk ([3, 7, 8, 9, 17].zip [v32 s, .lst n X, wN (Int.ofNat n), wN (Int.ofNat i), wN (Int.ofNat j)])) [] ([(0, wB true)], [])).map (Vm.seen [3, 7, 8, 9, 17]) = some (.nrm, [v32 s, .lst n X, wN (Int.ofNat n), wN (Int.ofNat i), wN (Int.ofNat j)], [], ([], [(wB (decide (Int.ofNat j < Int.ofNat 8)), wB true)])) := by kernel_rfl
theorem su_jo : (exL Tryz.prog sS mS 31 60 (first 2 suI) (mk ([3, 7, 8, 9, 17].zip [v32 s, .lst n X, wN (Int.ofNat n), wN (Int.ofNat i), wN (Int.ofNat j)])) [] ([(0, wB false)], [])).map (Vm.seen [3, 7, 8, 9]) = some (.exit 2, [v32 s, .lst n X, wN (Int.ofNat n), wN (Int.ofNat i)], [], ([], [(wB (decide (Int.ofNat j < Int.ofNat 8)), wB false)])) := by kernel_rfl
theorem su_k1 (a b : Nat) : (exS Tryz.prog sS mS 31 60 suK (mk ([3, 7, 8, 9, 17].zip [v32 s, .lst n X, wN (Int.ofNat n), wN (Int.ofNat i), wN (Int.ofNat j)])) [] ([(1, v32 1), (2, v32 a), (4, v32 b)], [])).map (Vm.seen [3, 7, 8, 9, 17]) = some (.nrm, [v32 b, .lst n X, wN (Int.ofNat n), wN (Int.ofNat i), wN (Int.ofNat j)], [], ([], [(xorA a 3988292384, v32 b), (shrA s, v32 a), (andA s, v32 1)])) := by kernel_rfl
theorem su_k0 (a : Nat) : (exS Tryz.prog sS mS 31 60 suK (mk ([3, 7, 8, 9, 17].zip [v32 s, .lst n X, wN (Int.ofNat n), wN (Int.ofNat i), wN (Int.ofNat j)])) [] ([(1, v32 0), (2, v32 a)], [])).map (Vm.seen [3, 7, 8, 9, 17]) = some (.nrm, [v32 a, .lst n X, wN (Int.ofNat n), wN (Int.ofNat i), wN (Int.ofNat j)], [], ([], [(shrA s, v32 a), (andA s, v32 0)])) := by kernel_rfl
theorem su_ju : (exS Tryz.prog sS mS 31 60 (cN 3 suI) (mk ([3, 7, 8, 9, 17].zip [v32 s, .lst n X, wN (Int.ofNat n), wN (Int.ofNat i), wN (Int.ofNat j)])) [] ([(0, wN (Int.ofNat (j + 1)))], [])).map (Vm.seen [3, 7, 8, 9, 17]) = some (.nrm, [v32 s, .lst n X, wN (Int.ofNat n), wN (Int.ofNat i), wN (Int.ofNat (j + 1))], [], ([], [(wN (IntKind.wrap .i64 (Int.ofNat j + 1)), wN (Int.ofNat (j + 1)))])) := by kernel_rfl
theorem su_end : (exS Tryz.prog sS mS 31 60 (seqs [cL (cN 3 su)] .ret) (mk ([3].zip [v32 s])) [] ([(1, v32 x)], [])).map (Vm.seen [2]) = some (.ret, [v32 x], [], ([], [(notA s, v32 x)])) := by kernel_rfl
end
theorem su_tri (l : List Nat) (hl : ∀ x ∈ l, x < 256) (hb : l.length < 9223372036854775807) : Tri Tryz.prog 31 0 su (frameOf 0 [.lst l.length (u8A l)] .lf) [] (fun x t hp => x = .ret ∧ t.get 2 = v32 (crc l) ∧ hp = []) := by
  have hN : 31 < 16383 := by decide
  generalize hX : u8A l = X
  generalize hn : l.length = n
  rw [su_eq]
  refine Tri.step sRun sRuns hN (keep := [0]) (vals := [.lst n X]) rfl rfl (su_pre X n) hold_nil (fun _ t k0 => ?_) (fun h => absurd rfl h)
  refine Tri.seq (Mid := fun x t hp => x = .nrm ∧ [3].map t.get = [v32 (crcL l 4294967295)] ∧ hp = []) ?_ ?_ ?_
  · refine Tri.step sRun sRuns hN (l := [cL (cL (cN 2 su))]) (c := .block 0 (.loop suO)) k0 rfl (su_i0 X n _) hold_nil (fun _ t k => ?_) (fun h => absurd rfl h)
    refine Tri.block (Tri.loop (fun j t hp => ∃ i s, i + j = n ∧ s < 2 ^ 32 ∧ crcL (l.drop i) s = crcL l 4294967295 ∧ [3, 7, 8, 9].map t.get = [v32 s, .lst n X, wN (Int.ofNat n), wN (Int.ofNat i)] ∧ hp = []) ?_ (k := n) ⟨0, _, by omega, by decide, rfl, k, rfl⟩)
    rintro j t hp ⟨i, s, hi, hs, hc, hk, rfl⟩
    rw [suO_eq]
    by_cases hlt : i < n
    · refine Tri.step sRun sRuns hN hk rfl (su_in X n i s) (hold_T (by simp only [Int.ofNat_eq_natCast]; omega) hold_nil) (fun _ t k => ?_) (fun h => absurd rfl h)
      have hil : i < l.length := by omega
      have hx : l[i] < 256 := hl _ (List.getElem_mem hil)
      have hxs : Nat.xor s l[i] < 2 ^ 32 := Nat.xor_lt_two_pow hs (by omega)
      refine Tri.seq (Mid := fun x t hp => x = .nrm ∧ (let s := crc8 (Nat.xor s l[i]); [3, 7, 8, 9].map t.get = [v32 s, .lst n X, wN (Int.ofNat n), wN (Int.ofNat i)]) ∧ hp = []) ?_ ?_ ?_
      · refine Tri.block ?_
        rw [suB_eq]
        refine Tri.step sRun sRuns hN k rfl (su_by X n i (Nat.xor s l[i]) s l[i]) (hold_eq (xorA_eq hs (by omega)) (hold_eq (by unfold wrapA; rw [wrap32 (by omega)]) (hold_eq (ldO_eq agg8 (by rw [← hX, Nat.mul_one]; simp [hil])) (hold_eq (ixO_eq hlt) hold_nil)))) (fun _ t k => ?_) (fun h => absurd rfl h)
        refine Tri.block (Tri.loop (fun q t hp => ∃ j s', j + q = 8 ∧ s' < 2 ^ 32 ∧ itB (8 - j) s' = crc8 (Nat.xor s l[i]) ∧ (let s := s'; [3, 7, 8, 9, 17].map t.get = [v32 s, .lst n X, wN (Int.ofNat n), wN (Int.ofNat i), wN (Int.ofNat j)]) ∧ hp = []) ?_ (k := 8) ⟨0, _, by omega, hxs, rfl, k, rfl⟩)
        rintro q t hp ⟨j, s', hj, hs', hc', hk', rfl⟩
        rw [suI_eq]
        by_cases hj8 : j < 8
        · refine Tri.step sRun sRuns hN hk' rfl (su_jn X n i j s') (hold_T (by simp only [Int.ofNat_eq_natCast]; omega) hold_nil) (fun _ t k => ?_) (fun h => absurd rfl h)
          have he : itB (8 - (j + 1)) (crcB s') = crc8 (Nat.xor s l[i]) := by
            rw [← hc', show 8 - j = (8 - (j + 1)) + 1 by omega]; rfl
          refine Tri.seq (Mid := fun x t hp => x = .nrm ∧ (let s := crcB s'; [3, 7, 8, 9, 17].map t.get = [v32 s, .lst n X, wN (Int.ofNat n), wN (Int.ofNat i), wN (Int.ofNat j)]) ∧ hp = []) ?_ ?_ ?_
          · refine Tri.block ?_
            rcases Nat.mod_two_eq_zero_or_one s' with hm | hm
            · exact Tri.last sRun sRuns hN k rfl (su_k0 X n i j s' (s' / 2)) (hold_eq (shrA_eq s') (hold_eq (by rw [andA_eq hs', hm]) hold_nil)) (fun t k => ⟨rfl, by rw [crcB0 hm]; exact k, rfl⟩)
            · exact Tri.last sRun sRuns hN k rfl (su_k1 X n i j s' (s' / 2) (Nat.xor (s' / 2) 3988292384)) (hold_eq (xorA_eq (by omega) (by decide)) (hold_eq (shrA_eq s') (hold_eq (by rw [andA_eq hs', hm]) hold_nil))) (fun t k => ⟨rfl, by rw [crcB1 hm]; exact k, rfl⟩)
          · rintro t hp ⟨_, k, rfl⟩
            exact Tri.last sRun sRuns hN k rfl (su_ju X n i j (crcB s')) (hold_eq (up64 (by omega)) hold_nil) (fun t k => .inl ⟨rfl, q - 1, by omega, j + 1, crcB s', by omega, crcB_lt hs', he, k, rfl⟩)
          · rintro x t hp hx ⟨rfl, _⟩; exact absurd rfl hx
        · have : j = 8 := by omega
          subst this
          refine Tri.step sRun sRuns hN hk' rfl (su_jo X n i 8 s') (hold_F (by decide) hold_nil) (fun h => by cases h) (fun _ t k => .inr ⟨by simp, rfl, ?_, rfl⟩)
          rw [show s' = crc8 (Nat.xor s l[i]) from hc'] at k
          exact k
      · rintro t hp ⟨_, k, rfl⟩
        exact Tri.last sRun sRuns hN k rfl (su_up X n i _) (hold_eq (up64L (by omega)) hold_nil) (fun t k => .inl ⟨rfl, j - 1, by omega, i + 1, _, by omega, by rw [crc8_it]; exact itB_lt hxs, by rw [← hc, crcL_drop hil], k, rfl⟩)
      · rintro x t hp hx ⟨rfl, _⟩; exact absurd rfl hx
    · have he : i = n := by omega
      subst he
      refine Tri.step sRun sRuns hN hk rfl (su_out X i i s) (hold_F (by simp only [Int.ofNat_eq_natCast]; omega) hold_nil) (fun h => by cases h) (fun _ t k => .inr ⟨by simp, rfl, ?_, rfl⟩)
      rw [List.drop_of_length_le (by omega)] at hc
      rw [← hc]; exact k
  · rintro t hp ⟨_, k, rfl⟩
    exact Tri.last sRun sRuns hN k rfl (su_end _ (crc l)) (hold_eq (notA_eq (crcL_lt hl (by decide))) hold_nil) (fun t k => ⟨rfl, by simpa using k, rfl⟩)
  · rintro x t hp hx ⟨rfl, _⟩; exact absurd rfl hx
theorem su_ok (l : List Nat) (hl : ∀ x ∈ l, x < 256) (hb : l.length < 9223372036854775807) : FnOk Tryz.prog 186 [.lst l.length (u8A l)] [] (.p (.int .u32 (Int.ofNat (crc l)))) [] := by
  refine fn_of_tri (fn := Tryz.f186) (c := su) Tryz.func186 (by kernel_rfl) (show (31 : Nat) < 16383 by decide) ?_
  refine Tri.mono (su_tri l hl hb) ?_
  rintro x t hp ⟨rfl, h2, rfl⟩
  refine ⟨.inr rfl, ?_⟩
  have e1 : Tryz.f186.results.toList = [.tmp 2] := by kernel_rfl
  have e2 : resV Tryz.prog t [] Tryz.f186.results.toList = some [v32 (crc l)] := by rw [e1, ← h2]; rfl
  rw [e2]
  generalize crc l = c
  show _ = _
  kernel_rfl
theorem su_con {args : List AV} {hp hp' : List Blk} {r : AV} (h : sumV args hp = some (r, hp')) : FnOk Tryz.prog 186 args hp r hp' := by
  obtain ⟨v, n, xs, hp1, l, rfl, hf, hx, hl, hb, hb2, rfl, rfl⟩ := sumV_ok h
  subst hx hb
  exact FnOk.of_frz hf rfl (su_ok l hl (by assumption))
end Sm
end Go.Proofs.YtlemialjfnbchaaGreat
