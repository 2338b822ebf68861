/- The law SkipExact answers true at every five arguments, and leaves what it is given; there are no conditions. -/
import Derived.Test.YtdahjdfjpckdcaaMtD
import Derived.Test.YtdahjdfjpckdcaaRows
import Derived.ProofKit
namespace Go.Proofs.Ytdahjdfjpckdcaa
open Go Go.Vm Go.ChangeShapes Go.WideShapes Go.ChangeAt Go.RowKit
set_option maxRecDepth 100000
theorem exact_ok {F N V O : Int} (hF : -128 ≤ F ∧ F ≤ 127) (hn : 0 ≤ N ∧ N ≤ 255) (hv : -128 ≤ V ∧ V ≤ 127) (ho : 0 ≤ O ∧ O ≤ 255) (nu : Bool) : FnOk Try.prog 5 [vI8 F, vU8 N, vI8 V, vU8 O, wB nu] [] (wB true) [] := by
  obtain ⟨m1, m2⟩ := tmodK (z := N) (k := 40) hn.1 (by omega)
  obtain ⟨m, hm⟩ := Int.eq_ofNat_of_zero_le m1
  have hlen64 : (rowX F (m + 1) nu).length ≤ 64 := by rw [rowX_len]; cases nu <;> simp <;> omega
  have hov := okX (A := oneC [.lst (rowX F (m + 1) nu).length (cellsO (rowX F (m + 1) nu)), wN 1] (.tup [.agg (statO (rowX F (m + 1) nu)), wN 0])) (fun _ _ _ _ k => of_oneC (of_ok _ hlen64) k)
  refine fn_of_tri (fn := Try.f5) (c := xe) Try.func5 (by kernel_rfl) (show (90 : Nat) < 16383 by decide) ?_
  refine Tri.mono (x_tri (orV_ok hov 60) (orS_ok 60) hF hn hv ho nu hm.symm (oneC_eq _ _)) ?_
  rintro x t hp1 ⟨rfl, h4⟩
  refine ⟨.inr rfl, ?_⟩
  have e1 : resV Try.prog t hp1 Try.f5.results.toList = some [t.get 10] := by kernel_rfl
  rw [e1, h4]
  exact (by kernel_rfl : gcV 0 (wB true) hp1 = some (wB true, []))
theorem own_knob5 : ownKnob Try.prog.godebug = none := by kernel_rfl
theorem laid_out5 : laidOutB Try.prog = true := by kernel_rfl

theorem skipExact_lifted (os : Os) (started : os.Started) (H : Type) (enc : TypeId × Value → H) :
    ReturnsInHanded {} Try.checked os 5 .any (Rows.skipExactSpec.pre6 enc Try.prog Try.f5 Rows.skipExactRow.domain false) (Rows.skipExactSpec.post enc Try.prog Try.f5 false true false false) := by
  refine returnsInHanded_of_change (C := Try.checked) own_knob5 started (by kernel_rfl) Try.func5
    (ChangeSpec.witness6 (enc := enc) (C := Try.checked) false ⟨#[], #[.int .i8 0, .int .u8 0, .int .i8 0, .int .u8 0, .bool false], []⟩ 8 (by kernel_rfl) (by kernel_rfl) (by kernel_rfl) (by kernel_rfl)) ?_
  intro W base args ds gs before hval0 hW hcnd _
  have hval : ∀ (j : Nat) t v, Try.f5.params[j]? = some t → args[j]? = some v → Value.okWide Try.prog W .any base t v := hval0
  have hW' := hW
  obtain ⟨p, q, hA0, hV, rfl, hfz, hnd⟩ := hW
  have hA : DataW.TrodAll enc Try.prog W 0 (fun _ => true) true Try.f5.params.toList args.toList ds p := hA0
  rw [Try.params5] at hA hval
  obtain ⟨v0, v1, v2, v3, v4, d0, d1, d2, d3, d4, p0, p1, p2, p3, p4, rfl, rfl, rfl, h0, h1, h2, h3, h4⟩ := trodAll_five hA
  obtain ⟨rfl, rfl⟩ := trodVars_none hV
  obtain ⟨a, rfl, rfl, rfl, wa⟩ := open_int Try.underlying31 (hval 0 31 v0 rfl rfl) h0
  obtain ⟨b, rfl, rfl, rfl, wb⟩ := open_int Try.underlying5 (hval 1 5 v1 rfl rfl) h1
  obtain ⟨l, rfl, rfl, rfl, wl⟩ := open_int Try.underlying31 (hval 2 31 v2 rfl rfl) h2
  obtain ⟨n, rfl, rfl, rfl, wn⟩ := open_int Try.underlying5 (hval 3 5 v3 rfl rfl) h3
  obtain ⟨nu, rfl⟩ := okWide_bool Try.underlying4 (hval 4 4 v4 rfl rfl)
  refine (calls_true (exact_ok (wf_in wa) (wf_in wb) (wf_in wl) (wf_in wn) nu) (rl_p (rl_p (rl_p (rl_p (rl_p rl_nil)))))).mono fun e W' ⟨he, hb⟩ => ?_
  subst he
  exact ⟨_, rfl, post_true laid_out5 hW' hb (by kernel_rfl) rfl rfl Try.underlying4 rfl⟩

theorem skipExact : Rows.SkipExactSaid :=
  OpenClaim.holds_of_wide 5 Try.f5 rfl rfl rfl rfl rfl rfl rfl ⟨rfl, rfl, rfl, rfl, rfl⟩ rfl rfl rfl rfl rfl (by kernel_rfl) Try.func5 (by kernel_rfl)
    (of_decide_eq_true (by kernel_rfl)) (by unfold Func.isWrapper; first | (rw [if_pos (by decide +kernel)]; kernel_rfl) | (rw [if_neg (by decide +kernel)]; exact ⟨rfl, rfl⟩))
    (fun os started H enc _ => skipExact_lifted os started H enc)
#print axioms skipExact
end Go.Proofs.Ytdahjdfjpckdcaa
