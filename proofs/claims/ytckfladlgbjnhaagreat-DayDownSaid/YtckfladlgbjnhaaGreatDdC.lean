/- The law DayDown answers true at every number of appends, started again or not, and leaves what it is given; there are no conditions. -/
import Derived.Test.YtckfladlgbjnhaaGreatDdB0
import Derived.Test.YtckfladlgbjnhaaGreatDdB1
import Derived.Test.YtckfladlgbjnhaaGreatVmM
import Derived.Test.YtckfladlgbjnhaaGreatVmL
import Derived.Test.YtckfladlgbjnhaaGreatRows
import Derived.ProofKit
namespace Go.Proofs.YtckfladlgbjnhaaGreat
open Go Go.Vm Go.ChangeShapes Go.WideShapes Go.ChangeAt Go.RowKit
set_option maxRecDepth 100000
theorem dd_ok {k : Int} (hk : 0 ≤ k ∧ k ≤ 255) (b : Bool) : FnOk Tryz.prog 12 [.p (.int .u8 k), .p (.bool b)] [] (.p (.bool true)) [] := by
  have hd : k.tmod 8 = k % 8 := Int.tmod_eq_emod_of_nonneg hk.1
  have h : ∀ q : Int, k.tmod 8 = q → (AV.p (.int .u8 (k.tmod 8))) = .p (.int .u8 q) := fun q e => by rw [e]
  have run : ∀ {orc : List (Nat × AV)} {q : Int}, k.tmod 8 = q → runS Tryz.prog mDdr 60 12 [.p (.int .u8 k), .p (.bool b)] [] (orc, []) = some (.p (.bool true), [], ([], [(.p (.int .u8 (k.tmod 8)), .p (.int .u8 q))])) → FnOk Tryz.prog 12 [.p (.int .u8 k), .p (.bool b)] [] (.p (.bool true)) [] :=
    fun e hr => runV_ok (M := mDdr) okDdr 60 _ _ _ _ _ (runS_run hr (hold_eq (h _ e) hold_nil))
  have hq : k.tmod 8 = 0 ∨ k.tmod 8 = 1 ∨ k.tmod 8 = 2 ∨ k.tmod 8 = 3 ∨ k.tmod 8 = 4 ∨ k.tmod 8 = 5 ∨ k.tmod 8 = 6 ∨ k.tmod 8 = 7 := by omega
  cases b with
  | true =>
    rcases hq with e | e | e | e | e | e | e | e
    · exact run e (dd0t k)
    · exact run e (dd1t k)
    · exact run e (dd2t k)
    · exact run e (dd3t k)
    · exact run e (dd4t k)
    · exact run e (dd5t k)
    · exact run e (dd6t k)
    · exact run e (dd7t k)
  | false =>
    rcases hq with e | e | e | e | e | e | e | e
    · exact run e (dd0f k)
    · exact run e (dd1f k)
    · exact run e (dd2f k)
    · exact run e (dd3f k)
    · exact run e (dd4f k)
    · exact run e (dd5f k)
    · exact run e (dd6f k)
    · exact run e (dd7f k)
theorem closure12 : Tryz.prog.closure 12 = [12, 57, 17, 71, 72, 73, 31, 58, 53, 30, 60, 120, 82, 61, 66, 68, 126, 125, 186, 250, 231, 127, 189, 190, 253, 310, 269, 319, 351, 371, 372, 352, 374, 373, 385, 325, 311, 211, 268, 154, 185, 249, 215, 270, 216, 271, 217, 272, 214, 254, 255, 75, 132, 70, 192, 191, 63, 133, 193, 74, 76, 134, 194, 135, 107, 94, 157, 158, 51, 112, 54, 108, 109, 84, 21, 77, 136, 195, 256, 137, 147, 196, 121, 87, 145, 202, 203, 262, 204, 138, 197, 198, 257, 312, 313, 207, 314, 267, 318, 139, 199, 259, 142, 201, 258, 315, 122, 200, 260, 261, 140, 128, 64, 141, 38, 40, 27, 95, 160, 221, 222, 169, 237, 293, 294, 236, 284, 290, 285, 332, 286, 333, 334, 287, 335, 336, 363, 288, 289, 291, 292, 223, 159, 97, 96, 44, 98, 161, 162, 45, 99, 163, 167, 224, 273, 274, 320, 353, 354, 375, 376, 362, 377, 355, 229, 164, 225, 275, 321, 322, 357, 379, 386, 103, 168, 235, 358, 356, 378, 359, 88, 146, 148, 205, 149, 150, 206, 263, 316, 349, 350, 208, 264, 209, 265, 266, 317, 210, 89, 151, 212, 152, 213, 153, 155, 90, 226, 165, 227, 276, 91, 277, 323, 324, 326, 278, 228, 100, 32, 16, 62, 65, 123, 187, 251, 188, 252, 308, 309, 343, 342, 366, 345, 344, 367, 347, 346, 368, 381, 369, 370, 383, 387, 116, 179, 244, 180, 245, 297, 303, 298, 337, 299, 300, 338, 339, 364, 301, 302, 304, 305, 382, 384, 388, 348, 124, 69, 129, 130, 131, 67, 18, 33, 22, 78, 92, 35, 86, 101, 166, 230, 232, 279, 233, 280, 327, 360, 281, 328, 282, 283, 329, 330, 361, 331, 234, 102, 110, 20, 113, 173, 239, 240, 295, 174, 241, 296, 114, 56, 50, 34, 175, 218, 242, 220, 177, 176, 243, 115, 178, 172, 119, 183, 248, 182, 246, 306, 247, 307, 340, 341, 365, 380, 184, 238, 156, 219, 55, 117, 181, 59, 118, 111, 47, 41] := by kernel_rfl
theorem inPlace12 : Tryz.prog.inPlace 12 = Rows.dayDownRow.inPlace := by
  unfold Program.inPlace
  rw [closure12]
  kernel_rfl
theorem unfollowed12 : Tryz.prog.unfollowed 12 = Rows.dayDownRow.unfollowed := by
  unfold Program.unfollowed
  rw [closure12]
  kernel_rfl
theorem recurses12 : Tryz.prog.recurses 12 = Rows.dayDownRow.recurses := by
  unfold Program.recurses
  rw [unfollowed12]
  kernel_rfl
theorem varsNamed12 : Tryz.prog.varsNamed 12 = Rows.dayDownRow.named := by
  unfold Program.varsNamed
  rw [closure12]
  kernel_rfl
theorem joined12 : joinedFacts Tryz.prog 12 Tryz.f12 Rows.dayDownSpec Rows.dayDownRow = true := by
  unfold joinedFacts
  rw [inPlace12, unfollowed12, recurses12, varsNamed12]
  kernel_rfl
theorem own_knob12 : ownKnob Tryz.prog.godebug = none := by kernel_rfl
theorem laid_out12 : laidOutB Tryz.prog = true := by kernel_rfl

set_option maxRecDepth 100000 in
theorem dayDown_lifted (os : Os) (started : os.Started) (H : Type) (enc : TypeId × Value → H) :
    ReturnsInHanded {} Tryz.checked os 12 .any (Rows.dayDownSpec.pre6 enc Tryz.prog Tryz.f12 Rows.dayDownRow.domain false) (Rows.dayDownSpec.post enc Tryz.prog Tryz.f12 false true false false) := by
  refine returnsInHanded_of_change (C := Tryz.checked) own_knob12 started (by kernel_rfl) Tryz.func12
    (ChangeSpec.witness6 (enc := enc) (C := Tryz.checked) false ⟨#[], #[.int .u8 0, .bool false], []⟩ 8 (by kernel_rfl) (by kernel_rfl) (by kernel_rfl) (by kernel_rfl)) ?_
  intro W base args ds gs before hval0 hW hcnd _
  have hval : ∀ (j : Nat) t v, Tryz.f12.params[j]? = some t → args[j]? = some v → Value.okWide Tryz.prog W .any base t v := hval0
  have hW' := hW
  obtain ⟨p, q, hA0, hV, rfl, hfz, hnd⟩ := hW
  have hA : DataW.TrodAll enc Tryz.prog W 0 (fun _ => true) true Tryz.f12.params.toList args.toList ds p := hA0
  rw [Tryz.params12] at hA hval
  obtain ⟨v0, v1, d0, d1, p0, p1, rfl, rfl, rfl, h0, h1⟩ := trodAll_two hA
  obtain ⟨rfl, rfl⟩ := trodVars_none hV
  obtain ⟨a, rfl, rfl, rfl, wa⟩ := open_int Tryz.underlying5 (hval 0 5 v0 rfl rfl) h0
  obtain ⟨b, rfl, rfl, rfl⟩ := open_bool Tryz.underlying4 (hval 1 4 v1 rfl rfl) h1
  refine (calls_true (dd_ok (wf_in wa) b) (rl_p (rl_p rl_nil))).mono fun e W' ⟨he, hb⟩ => ?_
  subst he
  exact ⟨_, rfl, post_true laid_out12 hW' hb (by kernel_rfl) rfl rfl Tryz.underlying4 rfl⟩

theorem dayDown : Rows.DayDownSaid :=
  OpenClaim.holds_of_wide 12 Tryz.f12 rfl rfl rfl rfl rfl rfl rfl ⟨rfl, rfl, rfl, rfl, rfl⟩ rfl rfl rfl rfl rfl (by kernel_rfl) Tryz.func12 joined12
    (of_decide_eq_true (by kernel_rfl)) (by unfold Func.isWrapper; first | (rw [if_pos (by decide +kernel)]; kernel_rfl) | (rw [if_neg (by decide +kernel)]; exact ⟨rfl, rfl⟩))
    (fun os started H enc _ => dayDown_lifted os started H enc)
#print axioms dayDown
end Go.Proofs.YtckfladlgbjnhaaGreat
