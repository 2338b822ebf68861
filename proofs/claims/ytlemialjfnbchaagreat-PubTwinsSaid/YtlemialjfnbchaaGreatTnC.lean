/- The law PubTwins answers true at any number and any count of steps, and leaves what it is given; there are no conditions. -/
import Derived.Test.YtlemialjfnbchaaGreatTnF
import Derived.Test.YtlemialjfnbchaaGreatVmM
import Derived.Test.YtlemialjfnbchaaGreatRows
import Derived.ProofKit

namespace Go.Proofs.YtlemialjfnbchaaGreat
open Go Go.Vm Go.ChangeShapes Go.WideShapes Go.ChangeAt Go.RowKit
set_option maxRecDepth 100000
theorem closure4 : Tryz.prog.closure 4 = [4, 28, 29, 63, 120, 68, 44, 79, 84, 86, 147, 146, 203, 256, 239, 148, 206, 207, 259, 294, 273, 303, 324, 337, 338, 325, 340, 339, 349, 307, 295, 221, 272, 171, 131, 192, 224, 274, 225, 275, 226, 276, 130, 260, 261, 65, 121, 88, 186, 185, 81, 122, 187, 92, 93, 153, 208, 154, 31, 89, 90, 91, 30, 82, 143, 80, 142, 83, 144, 204, 257, 222, 205, 168, 258, 163, 292, 268, 255, 165, 215, 293, 316, 315, 332, 318, 317, 333, 320, 319, 334, 344, 335, 336, 347, 352, 346, 350, 355, 351, 202, 254, 356, 357, 353, 358, 365, 359, 288, 289, 360, 366, 367, 368, 361, 362, 363, 364, 345, 348, 354, 321, 104, 169, 223, 170, 172, 145, 87, 150, 149, 151, 152, 85, 32, 36, 40, 95, 107, 39, 96, 132, 193, 243, 155, 164, 209, 70, 133, 194, 195, 244, 196, 156, 210, 211, 262, 296, 297, 217, 298, 271, 302, 157, 212, 264, 160, 214, 263, 299, 213, 265, 266, 158, 159, 41, 97, 161, 98, 99, 162, 33, 94, 34, 35, 37, 27] := by kernel_rfl
theorem inPlace4 : Tryz.prog.inPlace 4 = Rows.pubTwinsRow.inPlace := by
  unfold Program.inPlace
  rw [closure4]
  kernel_rfl
theorem unfollowed4 : Tryz.prog.unfollowed 4 = Rows.pubTwinsRow.unfollowed := by
  unfold Program.unfollowed
  rw [closure4]
  kernel_rfl
theorem recurses4 : Tryz.prog.recurses 4 = Rows.pubTwinsRow.recurses := by
  unfold Program.recurses
  rw [unfollowed4]
  kernel_rfl
theorem varsNamed4 : Tryz.prog.varsNamed 4 = Rows.pubTwinsRow.named := by
  unfold Program.varsNamed
  rw [closure4]
  kernel_rfl
theorem joined4 : joinedFacts Tryz.prog 4 Tryz.f4 Rows.pubTwinsSpec Rows.pubTwinsRow = true := by
  unfold joinedFacts
  rw [inPlace4, unfollowed4, recurses4, varsNamed4]
  kernel_rfl
theorem own_knob4 : ownKnob Tryz.prog.godebug = none := by kernel_rfl
theorem laid_out4 : laidOutB Tryz.prog = true := by kernel_rfl

set_option maxRecDepth 100000 in
theorem pubTwins_lifted (os : Os) (started : os.Started) (H : Type) (enc : TypeId × Value → H) :
    ReturnsInHanded {} Tryz.checked os 4 .any (Rows.pubTwinsSpec.pre6 enc Tryz.prog Tryz.f4 Rows.pubTwinsRow.domain false) (Rows.pubTwinsSpec.post enc Tryz.prog Tryz.f4 false true false false) := by
  refine returnsInHanded_of_change (C := Tryz.checked) own_knob4 started (by kernel_rfl) Tryz.func4
    (ChangeSpec.witness6 (enc := enc) (C := Tryz.checked) false ⟨#[], #[.int .i64 0, .int .u8 0], []⟩ 8 (by kernel_rfl) (by kernel_rfl) (by kernel_rfl) (by kernel_rfl)) ?_
  intro W base args ds gs before hval0 hW hcnd _
  have hval : ∀ (j : Nat) t v, Tryz.f4.params[j]? = some t → args[j]? = some v → Value.okWide Tryz.prog W .any base t v := hval0
  have hW' := hW
  obtain ⟨p, q, hA0, hV, rfl, hfz, hnd⟩ := hW
  have hA : DataW.TrodAll enc Tryz.prog W 0 (fun _ => true) true Tryz.f4.params.toList args.toList ds p := hA0
  rw [Tryz.params4] at hA hval
  obtain ⟨v0, v1, d0, d1, p0, p1, rfl, rfl, rfl, h0, h1⟩ := trodAll_two hA
  obtain ⟨rfl, rfl⟩ := trodVars_none hV
  obtain ⟨x0, rfl, rfl, rfl, w0⟩ := open_int Tryz.underlying2 (hval 0 2 v0 rfl rfl) h0
  obtain ⟨x1, rfl, rfl, rfl, w1⟩ := open_int Tryz.underlying5 (hval 1 5 v1 rfl rfl) h1
  refine (calls_true (Be.Tn.tn_ok (wf_in w0) (wf_in w1)) (rl_p (rl_p (rl_nil)))).mono fun e W' ⟨he, hb⟩ => ?_
  subst he
  exact ⟨_, rfl, post_true laid_out4 hW' hb (by kernel_rfl) rfl rfl Tryz.underlying4 rfl⟩

theorem pubTwins : Rows.PubTwinsSaid :=
  OpenClaim.holds_of_wide 4 Tryz.f4 rfl rfl rfl rfl rfl rfl rfl ⟨rfl, rfl, rfl, rfl, rfl⟩ rfl rfl rfl rfl rfl (by kernel_rfl) Tryz.func4 joined4
    (of_decide_eq_true (by kernel_rfl)) (by unfold Func.isWrapper; first | (rw [if_pos (by decide +kernel)]; kernel_rfl) | (rw [if_neg (by decide +kernel)]; exact ⟨rfl, rfl⟩))
    (fun os started H enc _ => pubTwins_lifted os started H enc)
#print axioms pubTwins
end Go.Proofs.YtlemialjfnbchaaGreat
