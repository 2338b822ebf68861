/- The law WorldHandles answers true at every number, and leaves what it is given; there are no conditions. -/
import Derived.Test.YtckfladlgbjnhaaGreatWhB0
import Derived.Test.YtckfladlgbjnhaaGreatWhB1
import Derived.Test.YtckfladlgbjnhaaGreatWhB2
import Derived.Test.YtckfladlgbjnhaaGreatWhB3
import Derived.Test.YtckfladlgbjnhaaGreatWhB4
import Derived.Test.YtckfladlgbjnhaaGreatVmM
import Derived.Test.YtckfladlgbjnhaaGreatVmL
import Derived.Test.YtckfladlgbjnhaaGreatRows
import Derived.ProofKit
namespace Go.Proofs.YtckfladlgbjnhaaGreat
open Go Go.Vm Go.ChangeShapes Go.WideShapes Go.ChangeAt Go.RowKit
theorem wh_ok {k : Int} (hk : 0 ≤ k ∧ k ≤ 255) : FnOk Tryz.prog 10 [.p (.int .u8 k)] [] (.p (.bool true)) [] := by
  have hd : k.tmod 5 = k % 5 := Int.tmod_eq_emod_of_nonneg hk.1
  have h : ∀ q : Int, k.tmod 5 = q → (AV.p (.int .u8 (k.tmod 5))) = .p (.int .u8 q) := fun q e => by rw [e]
  have run : ∀ {orc : List (Nat × AV)} {q : Int}, k.tmod 5 = q → runS Tryz.prog mWr 60 10 [.p (.int .u8 k)] [] (orc, []) = some (.p (.bool true), [], ([], [(.p (.int .u8 (k.tmod 5)), .p (.int .u8 q))])) → FnOk Tryz.prog 10 [.p (.int .u8 k)] [] (.p (.bool true)) [] :=
    fun e hr => runV_ok (M := mWr) okWr 60 _ _ _ _ _ (runS_run hr (hold_eq (h _ e) hold_nil))
  have hq : k.tmod 5 = 0 ∨ k.tmod 5 = 1 ∨ k.tmod 5 = 2 ∨ k.tmod 5 = 3 ∨ k.tmod 5 = 4 := by omega
  rcases hq with e | e | e | e | e
  · exact run e (wh0 k)
  · exact run e (wh1 k)
  · exact run e (wh2 k)
  · exact run e (wh3 k)
  · exact run e (wh4 k)

theorem closure10 : Tryz.prog.closure 10 = [10, 52, 17, 71, 72, 73, 31, 106, 53, 30, 60, 120, 82, 61, 66, 68, 126, 125, 186, 250, 231, 127, 189, 190, 253, 310, 269, 319, 351, 371, 372, 352, 374, 373, 385, 325, 311, 211, 268, 154, 185, 249, 215, 270, 216, 271, 217, 272, 214, 254, 255, 75, 132, 70, 192, 191, 63, 133, 193, 74, 76, 134, 194, 135, 107, 94, 157, 158, 51, 54, 108, 109, 84, 21, 77, 136, 195, 256, 137, 147, 196, 121, 87, 145, 202, 203, 262, 204, 138, 197, 198, 257, 312, 313, 207, 314, 267, 318, 139, 199, 259, 142, 201, 258, 315, 122, 200, 260, 261, 140, 128, 64, 141, 38, 40, 27, 95, 160, 221, 222, 169, 237, 293, 294, 236, 284, 290, 285, 332, 286, 333, 334, 287, 335, 336, 363, 288, 289, 291, 292, 223, 159, 97, 96, 44, 98, 161, 162, 45, 99, 163, 167, 224, 273, 274, 320, 353, 354, 375, 376, 362, 377, 355, 229, 164, 225, 275, 321, 322, 357, 379, 386, 103, 168, 235, 358, 356, 378, 359, 88, 146, 148, 205, 149, 150, 206, 263, 316, 349, 350, 208, 264, 209, 265, 266, 317, 210, 89, 151, 212, 152, 213, 153, 155, 90, 226, 165, 227, 276, 91, 277, 323, 324, 326, 278, 228, 100, 32, 16, 62, 65, 123, 187, 251, 188, 252, 308, 309, 343, 342, 366, 345, 344, 367, 347, 346, 368, 381, 369, 370, 383, 387, 116, 179, 244, 180, 245, 297, 303, 298, 337, 299, 300, 338, 339, 364, 301, 302, 304, 305, 382, 384, 388, 348, 124, 69, 129, 130, 131, 67, 18, 33, 22, 78, 92, 35, 86, 101, 166, 230, 232, 279, 233, 280, 327, 360, 281, 328, 282, 283, 329, 330, 361, 331, 234, 102, 110, 20] := by kernel_rfl
theorem inPlace10 : Tryz.prog.inPlace 10 = Rows.worldHandlesRow.inPlace := by
  unfold Program.inPlace
  rw [closure10]
  kernel_rfl
theorem unfollowed10 : Tryz.prog.unfollowed 10 = Rows.worldHandlesRow.unfollowed := by
  unfold Program.unfollowed
  rw [closure10]
  kernel_rfl
theorem recurses10 : Tryz.prog.recurses 10 = Rows.worldHandlesRow.recurses := by
  unfold Program.recurses
  rw [unfollowed10]
  kernel_rfl
theorem varsNamed10 : Tryz.prog.varsNamed 10 = Rows.worldHandlesRow.named := by
  unfold Program.varsNamed
  rw [closure10]
  kernel_rfl
theorem joined10 : joinedFacts Tryz.prog 10 Tryz.f10 Rows.worldHandlesSpec Rows.worldHandlesRow = true := by
  unfold joinedFacts
  rw [inPlace10, unfollowed10, recurses10, varsNamed10]
  kernel_rfl
theorem own_knob10 : ownKnob Tryz.prog.godebug = none := by kernel_rfl
theorem laid_out10 : laidOutB Tryz.prog = true := by kernel_rfl

set_option maxRecDepth 100000 in
theorem worldHandles_lifted (os : Os) (started : os.Started) (H : Type) (enc : TypeId × Value → H) :
    ReturnsInHanded {} Tryz.checked os 10 .any (Rows.worldHandlesSpec.pre6 enc Tryz.prog Tryz.f10 Rows.worldHandlesRow.domain false) (Rows.worldHandlesSpec.post enc Tryz.prog Tryz.f10 false true false false) := by
  refine returnsInHanded_of_change (C := Tryz.checked) own_knob10 started (by kernel_rfl) Tryz.func10
    (ChangeSpec.witness6 (enc := enc) (C := Tryz.checked) false ⟨#[], #[.int .u8 0], []⟩ 8 (by kernel_rfl) (by kernel_rfl) (by kernel_rfl) (by kernel_rfl)) ?_
  intro W base args ds gs before hval0 hW hcnd _
  have hval : ∀ (j : Nat) t v, Tryz.f10.params[j]? = some t → args[j]? = some v → Value.okWide Tryz.prog W .any base t v := hval0
  have hW' := hW
  obtain ⟨p, q, hA0, hV, rfl, hfz, hnd⟩ := hW
  have hA : DataW.TrodAll enc Tryz.prog W 0 (fun _ => true) true Tryz.f10.params.toList args.toList ds p := hA0
  rw [Tryz.params10] at hA hval
  obtain ⟨v0, d0, rfl, rfl, h0⟩ := trodAll_one hA
  obtain ⟨rfl, rfl⟩ := trodVars_none hV
  obtain ⟨a, rfl, rfl, rfl, wa⟩ := open_int Tryz.underlying5 (hval 0 5 v0 rfl rfl) h0
  refine (calls_true (wh_ok (wf_in wa)) (rl_p rl_nil)).mono fun e W' ⟨he, hb⟩ => ?_
  subst he
  exact ⟨_, rfl, post_true laid_out10 hW' hb (by kernel_rfl) rfl rfl Tryz.underlying4 rfl⟩

theorem worldHandles : Rows.WorldHandlesSaid :=
  OpenClaim.holds_of_wide 10 Tryz.f10 rfl rfl rfl rfl rfl rfl rfl ⟨rfl, rfl, rfl, rfl, rfl⟩ rfl rfl rfl rfl rfl (by kernel_rfl) Tryz.func10 joined10
    (of_decide_eq_true (by kernel_rfl)) (by unfold Func.isWrapper; first | (rw [if_pos (by decide +kernel)]; kernel_rfl) | (rw [if_neg (by decide +kernel)]; exact ⟨rfl, rfl⟩))
    (fun os started H enc _ => worldHandles_lifted os started H enc)
#print axioms worldHandles
end Go.Proofs.YtckfladlgbjnhaaGreat
