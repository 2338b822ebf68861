/- The law SkipTurns answers true at every five small numbers, and leaves what it is given; there are no conditions. -/
import Derived.Test.YtdahjdfjpckdcaaKtG
import Derived.Test.YtdahjdfjpckdcaaVmM
import Derived.Test.YtdahjdfjpckdcaaRows
import Derived.ProofKit
namespace Go.Proofs.Ytdahjdfjpckdcaa
open Go Go.Vm Go.ChangeShapes Go.WideShapes Go.ChangeAt Go.RowKit

theorem own_knob4 : ownKnob Try.prog.godebug = none := by kernel_rfl
theorem laid_out4 : laidOutB Try.prog = true := by kernel_rfl

set_option maxRecDepth 100000 in
theorem skipTurns_lifted (os : Os) (started : os.Started) (H : Type) (enc : TypeId × Value → H) :
    ReturnsInHanded {} Try.checked os 4 .any (Rows.skipTurnsSpec.pre6 enc Try.prog Try.f4 Rows.skipTurnsRow.domain false) (Rows.skipTurnsSpec.post enc Try.prog Try.f4 false true false false) := by
  refine returnsInHanded_of_change (C := Try.checked) own_knob4 started (by kernel_rfl) Try.func4
    (ChangeSpec.witness6 (enc := enc) (C := Try.checked) false ⟨#[], #[.int .i8 0, .int .i8 0, .int .i8 0, .int .u8 0, .int .u8 0], []⟩ 8 (by kernel_rfl) (by kernel_rfl) (by kernel_rfl) (by kernel_rfl)) ?_
  intro W base args ds gs before hval0 hW hcnd _
  have hval : ∀ (j : Nat) t v, Try.f4.params[j]? = some t → args[j]? = some v → Value.okWide Try.prog W .any base t v := hval0
  have hW' := hW
  obtain ⟨p, q, hA0, hV, rfl, hfz, hnd⟩ := hW
  have hA : DataW.TrodAll enc Try.prog W 0 (fun _ => true) true Try.f4.params.toList args.toList ds p := hA0
  rw [Try.params4] at hA hval
  obtain ⟨v0, v1, v2, v3, v4, d0, d1, d2, d3, d4, p0, p1, p2, p3, p4, rfl, rfl, rfl, h0, h1, h2, h3, h4⟩ := trodAll_five hA
  obtain ⟨rfl, rfl⟩ := trodVars_none hV
  obtain ⟨a, rfl, rfl, rfl, wa⟩ := open_int Try.underlying31 (hval 0 31 v0 rfl rfl) h0
  obtain ⟨b, rfl, rfl, rfl, wb⟩ := open_int Try.underlying31 (hval 1 31 v1 rfl rfl) h1
  obtain ⟨l, rfl, rfl, rfl, wl⟩ := open_int Try.underlying31 (hval 2 31 v2 rfl rfl) h2
  obtain ⟨n, rfl, rfl, rfl, wn⟩ := open_int Try.underlying5 (hval 3 5 v3 rfl rfl) h3
  obtain ⟨o, rfl, rfl, rfl, wo⟩ := open_int Try.underlying5 (hval 4 5 v4 rfl rfl) h4
  refine (calls_true (turns_ok (wf_in wa) (wf_in wb) (wf_in wl) (wf_in wn) (wf_in wo)) (rl_p (rl_p (rl_p (rl_p (rl_p rl_nil)))))).mono fun e W' ⟨he, hb⟩ => ?_
  subst he
  exact ⟨_, rfl, post_true laid_out4 hW' hb (by kernel_rfl) rfl rfl Try.underlying4 rfl⟩

theorem skipTurns : Rows.SkipTurnsSaid :=
  OpenClaim.holds_of_wide 4 Try.f4 rfl rfl rfl rfl rfl rfl rfl ⟨rfl, rfl, rfl, rfl, rfl⟩ rfl rfl rfl rfl rfl (by kernel_rfl) Try.func4 (by kernel_rfl)
    (of_decide_eq_true (by kernel_rfl)) (by unfold Func.isWrapper; first | (rw [if_pos (by decide +kernel)]; kernel_rfl) | (rw [if_neg (by decide +kernel)]; exact ⟨rfl, rfl⟩))
    (fun os started H enc _ => skipTurns_lifted os started H enc)
#print axioms skipTurns
end Go.Proofs.Ytdahjdfjpckdcaa
