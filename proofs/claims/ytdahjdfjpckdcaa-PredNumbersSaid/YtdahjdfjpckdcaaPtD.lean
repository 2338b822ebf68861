/- The law PredNumbers answers true at every two numbers, and leaves what it is given; there are no conditions. -/
import Derived.Test.YtdahjdfjpckdcaaPtB
import Derived.Test.YtdahjdfjpckdcaaPtC
import Derived.Test.YtdahjdfjpckdcaaVmM
import Derived.Test.YtdahjdfjpckdcaaRows
import Derived.ProofKit
namespace Go.Proofs.Ytdahjdfjpckdcaa
open Go Go.Vm Go.ChangeShapes Go.WideShapes Go.ChangeAt Go.RowKit

theorem own_knob7 : ownKnob Try.prog.godebug = none := by kernel_rfl
theorem laid_out7 : laidOutB Try.prog = true := by kernel_rfl

set_option maxRecDepth 100000 in
theorem predNumbers_lifted (os : Os) (started : os.Started) (H : Type) (enc : TypeId × Value → H) :
    ReturnsInHanded {} Try.checked os 7 .any (Rows.predNumbersSpec.pre6 enc Try.prog Try.f7 Rows.predNumbersRow.domain false) (Rows.predNumbersSpec.post enc Try.prog Try.f7 false true false false) := by
  refine returnsInHanded_of_change (C := Try.checked) own_knob7 started (by kernel_rfl) Try.func7
    (ChangeSpec.witness6 (enc := enc) (C := Try.checked) false ⟨#[], #[.int .i64 0, .int .i64 0], []⟩ 8 (by kernel_rfl) (by kernel_rfl) (by kernel_rfl) (by kernel_rfl)) ?_
  intro W base args ds gs before hval0 hW hcnd _
  have hval : ∀ (j : Nat) t v, Try.f7.params[j]? = some t → args[j]? = some v → Value.okWide Try.prog W .any base t v := hval0
  have hW' := hW
  obtain ⟨p, q, hA0, hV, rfl, hfz, hnd⟩ := hW
  have hA : DataW.TrodAll enc Try.prog W 0 (fun _ => true) true Try.f7.params.toList args.toList ds p := hA0
  rw [Try.params7] at hA hval
  obtain ⟨v0, v1, d0, d1, p0, p1, rfl, rfl, rfl, h0, h1⟩ := trodAll_two hA
  obtain ⟨rfl, rfl⟩ := trodVars_none hV
  obtain ⟨a, rfl, rfl, rfl, wa⟩ := open_int Try.underlying2 (hval 0 2 v0 rfl rfl) h0
  obtain ⟨b, rfl, rfl, rfl, wb⟩ := open_int Try.underlying2 (hval 1 2 v1 rfl rfl) h1
  refine (calls_true (predN_ok known24 a b) (rl_p (rl_p rl_nil))).mono fun e W' ⟨he, hb⟩ => ?_
  subst he
  exact ⟨_, rfl, post_true laid_out7 hW' hb (by kernel_rfl) rfl rfl Try.underlying4 rfl⟩

theorem predNumbers : Rows.PredNumbersSaid :=
  OpenClaim.holds_of_wide 7 Try.f7 rfl rfl rfl rfl rfl rfl rfl ⟨rfl, rfl, rfl, rfl, rfl⟩ rfl rfl rfl rfl rfl (by kernel_rfl) Try.func7 (by kernel_rfl)
    (of_decide_eq_true (by kernel_rfl)) (by unfold Func.isWrapper; first | (rw [if_pos (by decide +kernel)]; kernel_rfl) | (rw [if_neg (by decide +kernel)]; exact ⟨rfl, rfl⟩))
    (fun os started H enc _ => predNumbers_lifted os started H enc)
#print axioms predNumbers
end Go.Proofs.Ytdahjdfjpckdcaa
