/- The law PassShares answers true at every two rows of bytes, and leaves what it is given; there are no conditions. -/
import Derived.Test.YtdahjdfjpckdcaaQsC
import Derived.Test.YtdahjdfjpckdcaaVmM
import Derived.Test.YtdahjdfjpckdcaaRows
import Derived.ProofKit
namespace Go.Proofs.Ytdahjdfjpckdcaa
open Go Go.Vm Go.ChangeShapes Go.WideShapes Go.ChangeAt Go.RowKit

theorem own_knob : ownKnob Try.prog.godebug = none := by kernel_rfl
theorem laid_out : laidOutB Try.prog = true := by kernel_rfl
theorem u8_in {a : Int} (h : (Lit.int .u8 a).wf = true) : 0 ≤ a ∧ a ≤ 255 := by
  have h' : decide (IntKind.u8.min ≤ a ∧ a ≤ IntKind.u8.max) = true := by simpa [Lit.wf] using h
  have h2 := of_decide_eq_true h'
  exact ⟨h2.1, h2.2⟩
theorem cells5 : Try.prog.cellsOf 5 = 1 := by kernel_rfl
theorem rl2 {w : World} {S : Nat → Prop} {m : EM} {x y : AV} {u v : Value} (h : R w S m x u) (k : R w S m y v) : RL w S m [x, y] [u, v] := .cons h (.cons k .nil)

set_option maxRecDepth 100000 in
theorem passShares_lifted (os : Os) (started : os.Started) (H : Type) (enc : TypeId × Value → H) :
    ReturnsInHanded {} Try.checked os 3 .any (Rows.passSharesSpec.pre6 enc Try.prog Try.f3 Rows.passSharesRow.domain false) (Rows.passSharesSpec.post enc Try.prog Try.f3 false true false false) := by
  refine returnsInHanded_of_change (C := Try.checked) own_knob started (by kernel_rfl) Try.func3
    (ChangeSpec.witness6 (enc := enc) (C := Try.checked) false ⟨#[], #[.slice none 0 0, .slice none 0 0], []⟩ 8 (by kernel_rfl) (by kernel_rfl) (by kernel_rfl) (by kernel_rfl)) ?_
  intro W base args ds gs before hval0 hW hcnd _
  have hval : ∀ (j : Nat) t v, Try.f3.params[j]? = some t → args[j]? = some v → Value.okWide Try.prog W .any base t v := hval0
  have hW' := hW
  obtain ⟨p, q, hA0, hV, rfl, hfz, hnd⟩ := hW
  have hA : DataW.TrodAll enc Try.prog W 0 (fun _ => true) true Try.f3.params.toList args.toList ds p := hA0
  rw [Try.params3] at hA hval
  obtain ⟨v0, v1, d0, d1, p0, p1, rfl, rfl, rfl, h0, h1⟩ := trodAll_two hA
  obtain ⟨rfl, rfl⟩ := trodVars_none hV
  obtain ⟨xs, _, wx, rx⟩ := row_ints Try.underlying22 Try.underlying5 cells5 (hval 0 22 v0 rfl rfl) h0
  obtain ⟨ys, _, wy, ry⟩ := row_ints Try.underlying22 Try.underlying5 cells5 (hval 1 22 v1 rfl rfl) h1
  refine (calls_true (shares_ok xs ys (fun z hz => u8_in (wx z hz)) (fun z hz => u8_in (wy z hz))) (rl2 rx ry)).mono fun e W' ⟨he, hb⟩ => ?_
  subst he
  exact ⟨_, rfl, post_true laid_out hW' hb (by kernel_rfl) rfl rfl Try.underlying4 rfl⟩

theorem passShares : Rows.PassSharesSaid :=
  OpenClaim.holds_of_wide 3 Try.f3 rfl rfl rfl rfl rfl rfl rfl ⟨rfl, rfl, rfl, rfl, rfl⟩ rfl rfl rfl rfl rfl (by kernel_rfl) Try.func3 (by kernel_rfl)
    (of_decide_eq_true (by kernel_rfl)) (by unfold Func.isWrapper; first | (rw [if_pos (by decide +kernel)]; kernel_rfl) | (rw [if_neg (by decide +kernel)]; exact ⟨rfl, rfl⟩))
    (fun os started H enc _ => passShares_lifted os started H enc)
#print axioms passShares
end Go.Proofs.Ytdahjdfjpckdcaa
