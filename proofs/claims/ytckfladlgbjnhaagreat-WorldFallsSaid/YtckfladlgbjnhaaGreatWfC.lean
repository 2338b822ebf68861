/- The law WorldFalls answers true at every number of steps, whatever is kept, however many appends are ahead, and leaves what it is given; there are no conditions. -/
import Derived.Test.YtckfladlgbjnhaaGreatWfB0
import Derived.Test.YtckfladlgbjnhaaGreatWfB1
import Derived.Test.YtckfladlgbjnhaaGreatWfB2
import Derived.Test.YtckfladlgbjnhaaGreatWfB3
import Derived.Test.YtckfladlgbjnhaaGreatWfB4
import Derived.Test.YtckfladlgbjnhaaGreatWfB5
import Derived.Test.YtckfladlgbjnhaaGreatWfB6
import Derived.Test.YtckfladlgbjnhaaGreatWfB7
import Derived.Test.YtckfladlgbjnhaaGreatVmM
import Derived.Test.YtckfladlgbjnhaaGreatVmL
import Derived.Test.YtckfladlgbjnhaaGreatRows
import Derived.ProofKit
namespace Go.Proofs.YtckfladlgbjnhaaGreat
open Go Go.Vm Go.ChangeShapes Go.WideShapes Go.ChangeAt Go.RowKit
set_option maxRecDepth 100000
theorem hold8 {x y : Int} {cs : List (AV × AV)} (e : x = y) (h : Hold cs) : Hold ((.p (.int .u8 x), .p (.int .u8 y)) :: cs) := hold_eq (by rw [e]) h
theorem wf_ok {s keep a : Int} (hs : 0 ≤ s ∧ s ≤ 255) (hk : 0 ≤ keep ∧ keep ≤ 255) (ha : 0 ≤ a ∧ a ≤ 255) : FnOk Tryz.prog 11 [.p (.int .u8 s), .p (.int .u8 keep), .p (.int .u8 a)] [] (.p (.bool true)) [] := by
  have e8 : s.tmod 8 = s % 8 := Int.tmod_eq_emod_of_nonneg hs.1
  have e4 : a.tmod 4 = a % 4 := Int.tmod_eq_emod_of_nonneg ha.1
  have run : ∀ {orc : List (Nat × AV)} {cs : List (AV × AV)}, runS Tryz.prog mWfr 60 11 [.p (.int .u8 s), .p (.int .u8 keep), .p (.int .u8 a)] [] (orc, []) = some (.p (.bool true), [], ([], cs)) → Hold cs → FnOk Tryz.prog 11 [.p (.int .u8 s), .p (.int .u8 keep), .p (.int .u8 a)] [] (.p (.bool true)) [] :=
    fun hr hh => runV_ok (M := mWfr) okWfr 60 _ _ _ _ _ (runS_run hr hh)
  have hn : a.tmod 4 = 0 ∨ a.tmod 4 = 1 ∨ a.tmod 4 = 2 ∨ a.tmod 4 = 3 := by omega
  have hq : s.tmod 8 = 0 ∨ s.tmod 8 = 1 ∨ s.tmod 8 = 2 ∨ s.tmod 8 = 3 ∨ s.tmod 8 = 4 ∨ s.tmod 8 = 5 ∨ s.tmod 8 = 6 ∨ s.tmod 8 = 7 := by omega
  have b0 := wfInt_ok hk 0 (by decide)
  have b1 := wfInt_ok hk 1 (by decide)
  have b2 := wfInt_ok hk 2 (by decide)
  rcases hn with n | n | n | n
  · rcases hq with e | e | e | e | e | e | e | e
    · exact run (wf0_0_0 s keep a) (hold8 e (hold8 n hold_nil))
    · exact run (wf0_1_0 s keep a) (hold8 e (hold8 n hold_nil))
    · rcases b0 with c0 | c0 <;> rcases b1 with c1 | c1 <;> rcases b2 with c2 | c2
      · exact run (wf0_2_0 s keep a) (hold8 c2 (hold8 c1 (hold8 c0 (hold8 e (hold8 n hold_nil)))))
      · exact run (wf0_2_4 s keep a) (hold8 c2 (hold8 c1 (hold8 c0 (hold8 e (hold8 n hold_nil)))))
      · exact run (wf0_2_2 s keep a) (hold8 c2 (hold8 c1 (hold8 c0 (hold8 e (hold8 n hold_nil)))))
      · exact run (wf0_2_6 s keep a) (hold8 c2 (hold8 c1 (hold8 c0 (hold8 e (hold8 n hold_nil)))))
      · exact run (wf0_2_1 s keep a) (hold8 c2 (hold8 c1 (hold8 c0 (hold8 e (hold8 n hold_nil)))))
      · exact run (wf0_2_5 s keep a) (hold8 c2 (hold8 c1 (hold8 c0 (hold8 e (hold8 n hold_nil)))))
      · exact run (wf0_2_3 s keep a) (hold8 c2 (hold8 c1 (hold8 c0 (hold8 e (hold8 n hold_nil)))))
      · exact run (wf0_2_7 s keep a) (hold8 c2 (hold8 c1 (hold8 c0 (hold8 e (hold8 n hold_nil)))))
    · exact run (wf0_3_0 s keep a) (hold8 e (hold8 n hold_nil))
    · rcases b0 with c0 | c0
      · exact run (wf0_4_0 s keep a) (hold8 c0 (hold8 e (hold8 n hold_nil)))
      · exact run (wf0_4_1 s keep a) (hold8 c0 (hold8 e (hold8 n hold_nil)))
    · exact run (wf0_5_0 s keep a) (hold8 e (hold8 n hold_nil))
    · rcases b0 with c0 | c0
      · exact run (wf0_6_0 s keep a) (hold8 c0 (hold8 e (hold8 n hold_nil)))
      · exact run (wf0_6_1 s keep a) (hold8 c0 (hold8 e (hold8 n hold_nil)))
    · exact run (wf0_7_0 s keep a) (hold8 e (hold8 n hold_nil))
  · rcases hq with e | e | e | e | e | e | e | e
    · exact run (wf1_0_0 s keep a) (hold8 e (hold8 n hold_nil))
    · exact run (wf1_1_0 s keep a) (hold8 e (hold8 n hold_nil))
    · rcases b0 with c0 | c0 <;> rcases b1 with c1 | c1 <;> rcases b2 with c2 | c2
      · exact run (wf1_2_0 s keep a) (hold8 c2 (hold8 c1 (hold8 c0 (hold8 e (hold8 n hold_nil)))))
      · exact run (wf1_2_4 s keep a) (hold8 c2 (hold8 c1 (hold8 c0 (hold8 e (hold8 n hold_nil)))))
      · exact run (wf1_2_2 s keep a) (hold8 c2 (hold8 c1 (hold8 c0 (hold8 e (hold8 n hold_nil)))))
      · exact run (wf1_2_6 s keep a) (hold8 c2 (hold8 c1 (hold8 c0 (hold8 e (hold8 n hold_nil)))))
      · exact run (wf1_2_1 s keep a) (hold8 c2 (hold8 c1 (hold8 c0 (hold8 e (hold8 n hold_nil)))))
      · exact run (wf1_2_5 s keep a) (hold8 c2 (hold8 c1 (hold8 c0 (hold8 e (hold8 n hold_nil)))))
      · exact run (wf1_2_3 s keep a) (hold8 c2 (hold8 c1 (hold8 c0 (hold8 e (hold8 n hold_nil)))))
      · exact run (wf1_2_7 s keep a) (hold8 c2 (hold8 c1 (hold8 c0 (hold8 e (hold8 n hold_nil)))))
    · exact run (wf1_3_0 s keep a) (hold8 e (hold8 n hold_nil))
    · rcases b0 with c0 | c0 <;> rcases b1 with c1 | c1
      · exact run (wf1_4_0 s keep a) (hold8 c1 (hold8 c0 (hold8 e (hold8 n hold_nil))))
      · exact run (wf1_4_2 s keep a) (hold8 c1 (hold8 c0 (hold8 e (hold8 n hold_nil))))
      · exact run (wf1_4_1 s keep a) (hold8 c1 (hold8 c0 (hold8 e (hold8 n hold_nil))))
      · exact run (wf1_4_3 s keep a) (hold8 c1 (hold8 c0 (hold8 e (hold8 n hold_nil))))
    · exact run (wf1_5_0 s keep a) (hold8 e (hold8 n hold_nil))
    · rcases b0 with c0 | c0
      · exact run (wf1_6_0 s keep a) (hold8 c0 (hold8 e (hold8 n hold_nil)))
      · exact run (wf1_6_1 s keep a) (hold8 c0 (hold8 e (hold8 n hold_nil)))
    · exact run (wf1_7_0 s keep a) (hold8 e (hold8 n hold_nil))
  · rcases hq with e | e | e | e | e | e | e | e
    · exact run (wf2_0_0 s keep a) (hold8 e (hold8 n hold_nil))
    · exact run (wf2_1_0 s keep a) (hold8 e (hold8 n hold_nil))
    · rcases b0 with c0 | c0 <;> rcases b1 with c1 | c1 <;> rcases b2 with c2 | c2
      · exact run (wf2_2_0 s keep a) (hold8 c2 (hold8 c1 (hold8 c0 (hold8 e (hold8 n hold_nil)))))
      · exact run (wf2_2_4 s keep a) (hold8 c2 (hold8 c1 (hold8 c0 (hold8 e (hold8 n hold_nil)))))
      · exact run (wf2_2_2 s keep a) (hold8 c2 (hold8 c1 (hold8 c0 (hold8 e (hold8 n hold_nil)))))
      · exact run (wf2_2_6 s keep a) (hold8 c2 (hold8 c1 (hold8 c0 (hold8 e (hold8 n hold_nil)))))
      · exact run (wf2_2_1 s keep a) (hold8 c2 (hold8 c1 (hold8 c0 (hold8 e (hold8 n hold_nil)))))
      · exact run (wf2_2_5 s keep a) (hold8 c2 (hold8 c1 (hold8 c0 (hold8 e (hold8 n hold_nil)))))
      · exact run (wf2_2_3 s keep a) (hold8 c2 (hold8 c1 (hold8 c0 (hold8 e (hold8 n hold_nil)))))
      · exact run (wf2_2_7 s keep a) (hold8 c2 (hold8 c1 (hold8 c0 (hold8 e (hold8 n hold_nil)))))
    · exact run (wf2_3_0 s keep a) (hold8 e (hold8 n hold_nil))
    · rcases b0 with c0 | c0 <;> rcases b1 with c1 | c1
      · exact run (wf2_4_0 s keep a) (hold8 c1 (hold8 c0 (hold8 e (hold8 n hold_nil))))
      · exact run (wf2_4_2 s keep a) (hold8 c1 (hold8 c0 (hold8 e (hold8 n hold_nil))))
      · exact run (wf2_4_1 s keep a) (hold8 c1 (hold8 c0 (hold8 e (hold8 n hold_nil))))
      · exact run (wf2_4_3 s keep a) (hold8 c1 (hold8 c0 (hold8 e (hold8 n hold_nil))))
    · exact run (wf2_5_0 s keep a) (hold8 e (hold8 n hold_nil))
    · rcases b0 with c0 | c0
      · exact run (wf2_6_0 s keep a) (hold8 c0 (hold8 e (hold8 n hold_nil)))
      · exact run (wf2_6_1 s keep a) (hold8 c0 (hold8 e (hold8 n hold_nil)))
    · exact run (wf2_7_0 s keep a) (hold8 e (hold8 n hold_nil))
  · rcases hq with e | e | e | e | e | e | e | e
    · exact run (wf3_0_0 s keep a) (hold8 e (hold8 n hold_nil))
    · exact run (wf3_1_0 s keep a) (hold8 e (hold8 n hold_nil))
    · rcases b0 with c0 | c0 <;> rcases b1 with c1 | c1 <;> rcases b2 with c2 | c2
      · exact run (wf3_2_0 s keep a) (hold8 c2 (hold8 c1 (hold8 c0 (hold8 e (hold8 n hold_nil)))))
      · exact run (wf3_2_4 s keep a) (hold8 c2 (hold8 c1 (hold8 c0 (hold8 e (hold8 n hold_nil)))))
      · exact run (wf3_2_2 s keep a) (hold8 c2 (hold8 c1 (hold8 c0 (hold8 e (hold8 n hold_nil)))))
      · exact run (wf3_2_6 s keep a) (hold8 c2 (hold8 c1 (hold8 c0 (hold8 e (hold8 n hold_nil)))))
      · exact run (wf3_2_1 s keep a) (hold8 c2 (hold8 c1 (hold8 c0 (hold8 e (hold8 n hold_nil)))))
      · exact run (wf3_2_5 s keep a) (hold8 c2 (hold8 c1 (hold8 c0 (hold8 e (hold8 n hold_nil)))))
      · exact run (wf3_2_3 s keep a) (hold8 c2 (hold8 c1 (hold8 c0 (hold8 e (hold8 n hold_nil)))))
      · exact run (wf3_2_7 s keep a) (hold8 c2 (hold8 c1 (hold8 c0 (hold8 e (hold8 n hold_nil)))))
    · exact run (wf3_3_0 s keep a) (hold8 e (hold8 n hold_nil))
    · rcases b0 with c0 | c0 <;> rcases b1 with c1 | c1
      · exact run (wf3_4_0 s keep a) (hold8 c1 (hold8 c0 (hold8 e (hold8 n hold_nil))))
      · exact run (wf3_4_2 s keep a) (hold8 c1 (hold8 c0 (hold8 e (hold8 n hold_nil))))
      · exact run (wf3_4_1 s keep a) (hold8 c1 (hold8 c0 (hold8 e (hold8 n hold_nil))))
      · exact run (wf3_4_3 s keep a) (hold8 c1 (hold8 c0 (hold8 e (hold8 n hold_nil))))
    · exact run (wf3_5_0 s keep a) (hold8 e (hold8 n hold_nil))
    · rcases b0 with c0 | c0
      · exact run (wf3_6_0 s keep a) (hold8 c0 (hold8 e (hold8 n hold_nil)))
      · exact run (wf3_6_1 s keep a) (hold8 c0 (hold8 e (hold8 n hold_nil)))
    · exact run (wf3_7_0 s keep a) (hold8 e (hold8 n hold_nil))
theorem closure11 : Tryz.prog.closure 11 = [11, 52, 17, 71, 72, 73, 31, 106, 53, 30, 60, 120, 82, 61, 66, 68, 126, 125, 186, 250, 231, 127, 189, 190, 253, 310, 269, 319, 351, 371, 372, 352, 374, 373, 385, 325, 311, 211, 268, 154, 185, 249, 215, 270, 216, 271, 217, 272, 214, 254, 255, 75, 132, 70, 192, 191, 63, 133, 193, 74, 76, 134, 194, 135, 107, 94, 157, 158, 51, 54, 108, 109, 84, 21, 77, 136, 195, 256, 137, 147, 196, 121, 87, 145, 202, 203, 262, 204, 138, 197, 198, 257, 312, 313, 207, 314, 267, 318, 139, 199, 259, 142, 201, 258, 315, 122, 200, 260, 261, 140, 128, 64, 141, 38, 40, 27, 95, 160, 221, 222, 169, 237, 293, 294, 236, 284, 290, 285, 332, 286, 333, 334, 287, 335, 336, 363, 288, 289, 291, 292, 223, 159, 97, 96, 44, 98, 161, 162, 45, 99, 163, 167, 224, 273, 274, 320, 353, 354, 375, 376, 362, 377, 355, 229, 164, 225, 275, 321, 322, 357, 379, 386, 103, 168, 235, 358, 356, 378, 359, 88, 146, 148, 205, 149, 150, 206, 263, 316, 349, 350, 208, 264, 209, 265, 266, 317, 210, 89, 151, 212, 152, 213, 153, 155, 90, 226, 165, 227, 276, 91, 277, 323, 324, 326, 278, 228, 100, 32, 16, 62, 65, 123, 187, 251, 188, 252, 308, 309, 343, 342, 366, 345, 344, 367, 347, 346, 368, 381, 369, 370, 383, 387, 116, 179, 244, 180, 245, 297, 303, 298, 337, 299, 300, 338, 339, 364, 301, 302, 304, 305, 382, 384, 388, 348, 124, 69, 129, 130, 131, 67, 18, 33, 22, 78, 92, 35, 86, 101, 166, 230, 232, 279, 233, 280, 327, 360, 281, 328, 282, 283, 329, 330, 361, 331, 234, 102, 110, 20, 55, 56, 50, 34] := by kernel_rfl
theorem inPlace11 : Tryz.prog.inPlace 11 = Rows.worldFallsRow.inPlace := by
  unfold Program.inPlace
  rw [closure11]
  kernel_rfl
theorem unfollowed11 : Tryz.prog.unfollowed 11 = Rows.worldFallsRow.unfollowed := by
  unfold Program.unfollowed
  rw [closure11]
  kernel_rfl
theorem recurses11 : Tryz.prog.recurses 11 = Rows.worldFallsRow.recurses := by
  unfold Program.recurses
  rw [unfollowed11]
  kernel_rfl
theorem varsNamed11 : Tryz.prog.varsNamed 11 = Rows.worldFallsRow.named := by
  unfold Program.varsNamed
  rw [closure11]
  kernel_rfl
theorem joined11 : joinedFacts Tryz.prog 11 Tryz.f11 Rows.worldFallsSpec Rows.worldFallsRow = true := by
  unfold joinedFacts
  rw [inPlace11, unfollowed11, recurses11, varsNamed11]
  kernel_rfl
theorem own_knob11 : ownKnob Tryz.prog.godebug = none := by kernel_rfl
theorem laid_out11 : laidOutB Tryz.prog = true := by kernel_rfl

set_option maxRecDepth 100000 in
theorem worldFalls_lifted (os : Os) (started : os.Started) (H : Type) (enc : TypeId × Value → H) :
    ReturnsInHanded {} Tryz.checked os 11 .any (Rows.worldFallsSpec.pre6 enc Tryz.prog Tryz.f11 Rows.worldFallsRow.domain false) (Rows.worldFallsSpec.post enc Tryz.prog Tryz.f11 false true false false) := by
  refine returnsInHanded_of_change (C := Tryz.checked) own_knob11 started (by kernel_rfl) Tryz.func11
    (ChangeSpec.witness6 (enc := enc) (C := Tryz.checked) false ⟨#[], #[.int .u8 0, .int .u8 0, .int .u8 0], []⟩ 8 (by kernel_rfl) (by kernel_rfl) (by kernel_rfl) (by kernel_rfl)) ?_
  intro W base args ds gs before hval0 hW hcnd _
  have hval : ∀ (j : Nat) t v, Tryz.f11.params[j]? = some t → args[j]? = some v → Value.okWide Tryz.prog W .any base t v := hval0
  have hW' := hW
  obtain ⟨p, q, hA0, hV, rfl, hfz, hnd⟩ := hW
  have hA : DataW.TrodAll enc Tryz.prog W 0 (fun _ => true) true Tryz.f11.params.toList args.toList ds p := hA0
  rw [Tryz.params11] at hA hval
  obtain ⟨v0, v1, v2, d0, d1, d2, p0, p1, p2, rfl, rfl, rfl, h0, h1, h2⟩ := trodAll_three hA
  obtain ⟨rfl, rfl⟩ := trodVars_none hV
  obtain ⟨a, rfl, rfl, rfl, wa⟩ := open_int Tryz.underlying5 (hval 0 5 v0 rfl rfl) h0
  obtain ⟨b, rfl, rfl, rfl, wb⟩ := open_int Tryz.underlying5 (hval 1 5 v1 rfl rfl) h1
  obtain ⟨c, rfl, rfl, rfl, wc⟩ := open_int Tryz.underlying5 (hval 2 5 v2 rfl rfl) h2
  refine (calls_true (wf_ok (wf_in wa) (wf_in wb) (wf_in wc)) (rl_p (rl_p (rl_p rl_nil)))).mono fun e W' ⟨he, hb⟩ => ?_
  subst he
  exact ⟨_, rfl, post_true laid_out11 hW' hb (by kernel_rfl) rfl rfl Tryz.underlying4 rfl⟩

theorem worldFalls : Rows.WorldFallsSaid :=
  OpenClaim.holds_of_wide 11 Tryz.f11 rfl rfl rfl rfl rfl rfl rfl ⟨rfl, rfl, rfl, rfl, rfl⟩ rfl rfl rfl rfl rfl (by kernel_rfl) Tryz.func11 joined11
    (of_decide_eq_true (by kernel_rfl)) (by unfold Func.isWrapper; first | (rw [if_pos (by decide +kernel)]; kernel_rfl) | (rw [if_neg (by decide +kernel)]; exact ⟨rfl, rfl⟩))
    (fun os started H enc _ => worldFalls_lifted os started H enc)
#print axioms worldFalls
end Go.Proofs.YtckfladlgbjnhaaGreat
