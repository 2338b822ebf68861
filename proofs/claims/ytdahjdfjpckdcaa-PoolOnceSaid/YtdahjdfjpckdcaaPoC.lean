/- The law PoolOnce answers true at every number and either way, and leaves what it is given; there are no conditions. -/
import Derived.Test.YtdahjdfjpckdcaaPoB0
import Derived.Test.YtdahjdfjpckdcaaPoB1
import Derived.Test.YtdahjdfjpckdcaaPoB2
import Derived.Test.YtdahjdfjpckdcaaPoB3
import Derived.Test.YtdahjdfjpckdcaaPoB4
import Derived.Test.YtdahjdfjpckdcaaPoB5
import Derived.Test.YtdahjdfjpckdcaaPoB6
import Derived.Test.YtdahjdfjpckdcaaVmM
import Derived.Test.YtdahjdfjpckdcaaVmL
import Derived.Test.YtdahjdfjpckdcaaRows
import Derived.ProofKit
namespace Go.Proofs.Ytdahjdfjpckdcaa
open Go Go.Vm Go.ChangeShapes Go.WideShapes Go.ChangeAt Go.RowKit
theorem po_ok {k : Int} (hk : 0 ≤ k ∧ k ≤ 255) (b : Bool) : FnOk Try.prog 9 [.p (.int .u8 k), .p (.bool b)] [] (.p (.bool true)) [] := by
  have hd : k.tmod 7 = k % 7 := Int.tmod_eq_emod_of_nonneg hk.1
  have h : ∀ q : Int, k.tmod 7 = q → (AV.p (.int .u8 (k.tmod 7))) = .p (.int .u8 q) := fun q e => by rw [e]
  have run : ∀ {orc : List (Nat × AV)} {q : Int}, k.tmod 7 = q → runS Try.prog mPr 60 9 [.p (.int .u8 k), .p (.bool b)] [] (orc, []) = some (.p (.bool true), [], ([], [(.p (.int .u8 (k.tmod 7)), .p (.int .u8 q))])) → FnOk Try.prog 9 [.p (.int .u8 k), .p (.bool b)] [] (.p (.bool true)) [] :=
    fun e hr => runV_ok (M := mPr) okPr 60 _ _ _ _ _ (runS_run hr (hold_eq (h _ e) hold_nil))
  have hq : k.tmod 7 = 0 ∨ k.tmod 7 = 1 ∨ k.tmod 7 = 2 ∨ k.tmod 7 = 3 ∨ k.tmod 7 = 4 ∨ k.tmod 7 = 5 ∨ k.tmod 7 = 6 := by omega
  cases b with
  | true =>
    rcases hq with e | e | e | e | e | e | e
    · exact run e (po0 k)
    · exact run e (po1 k)
    · exact run e (po2 k)
    · exact run e (po3 k)
    · exact run e (po4 k)
    · exact run e (po5 k)
    · exact run e (po6 k)
  | false =>
    rcases hq with e | e | e | e | e | e | e
    · exact run e (qo0 k)
    · exact run e (qo1 k)
    · exact run e (qo2 k)
    · exact run e (qo3 k)
    · exact run e (qo4 k)
    · exact run e (qo5 k)
    · exact run e (qo6 k)

theorem own_knob9 : ownKnob Try.prog.godebug = none := by kernel_rfl
theorem laid_out9 : laidOutB Try.prog = true := by kernel_rfl

set_option maxRecDepth 100000 in
theorem poolOnce_lifted (os : Os) (started : os.Started) (H : Type) (enc : TypeId × Value → H) :
    ReturnsInHanded {} Try.checked os 9 .any (Rows.poolOnceSpec.pre6 enc Try.prog Try.f9 Rows.poolOnceRow.domain false) (Rows.poolOnceSpec.post enc Try.prog Try.f9 false true false false) := by
  refine returnsInHanded_of_change (C := Try.checked) own_knob9 started (by kernel_rfl) Try.func9
    (ChangeSpec.witness6 (enc := enc) (C := Try.checked) false ⟨#[], #[.int .u8 0, .bool false], []⟩ 8 (by kernel_rfl) (by kernel_rfl) (by kernel_rfl) (by kernel_rfl)) ?_
  intro W base args ds gs before hval0 hW hcnd _
  have hval : ∀ (j : Nat) t v, Try.f9.params[j]? = some t → args[j]? = some v → Value.okWide Try.prog W .any base t v := hval0
  have hW' := hW
  obtain ⟨p, q, hA0, hV, rfl, hfz, hnd⟩ := hW
  have hA : DataW.TrodAll enc Try.prog W 0 (fun _ => true) true Try.f9.params.toList args.toList ds p := hA0
  rw [Try.params9] at hA hval
  obtain ⟨v0, v1, d0, d1, p0, p1, rfl, rfl, rfl, h0, h1⟩ := trodAll_two hA
  obtain ⟨rfl, rfl⟩ := trodVars_none hV
  obtain ⟨a, rfl, rfl, rfl, wa⟩ := open_int Try.underlying5 (hval 0 5 v0 rfl rfl) h0
  obtain ⟨b, rfl, rfl, rfl⟩ := open_bool Try.underlying4 (hval 1 4 v1 rfl rfl) h1
  refine (calls_true (po_ok (wf_in wa) b) (rl_p (rl_p rl_nil))).mono fun e W' ⟨he, hb⟩ => ?_
  subst he
  exact ⟨_, rfl, post_true laid_out9 hW' hb (by kernel_rfl) rfl rfl Try.underlying4 rfl⟩

theorem poolOnce : Rows.PoolOnceSaid :=
  OpenClaim.holds_of_wide 9 Try.f9 rfl rfl rfl rfl rfl rfl rfl ⟨rfl, rfl, rfl, rfl, rfl⟩ rfl rfl rfl rfl rfl (by kernel_rfl) Try.func9 (by kernel_rfl)
    (of_decide_eq_true (by kernel_rfl)) (by unfold Func.isWrapper; first | (rw [if_pos (by decide +kernel)]; kernel_rfl) | (rw [if_neg (by decide +kernel)]; exact ⟨rfl, rfl⟩))
    (fun os started H enc _ => poolOnce_lifted os started H enc)
#print axioms poolOnce
end Go.Proofs.Ytdahjdfjpckdcaa
