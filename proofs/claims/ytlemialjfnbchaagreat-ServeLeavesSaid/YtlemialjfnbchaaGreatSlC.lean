/- The law ServeLeaves answers true at any number of steps and any settings, and leaves what it is given; there are no conditions. -/
import Derived.Test.YtlemialjfnbchaaGreatSlB0
import Derived.Test.YtlemialjfnbchaaGreatSlB1
import Derived.Test.YtlemialjfnbchaaGreatSlB2
import Derived.Test.YtlemialjfnbchaaGreatSlB3
import Derived.Test.YtlemialjfnbchaaGreatSlB4
import Derived.Test.YtlemialjfnbchaaGreatVmM
import Derived.Test.YtlemialjfnbchaaGreatRows
import Derived.ProofKit

namespace Go.Proofs.YtlemialjfnbchaaGreat
open Go Go.Vm Go.ChangeShapes Go.WideShapes Go.ChangeAt Go.RowKit
set_option maxRecDepth 100000
theorem sl_run {n : Nat} {Fr K : Int} {sh jp : Bool} {orc : List (Nat × AV)} {cs : List (AV × AV)} (hr : runS Tryz.prog mSlr 200 8 [V8 n, .agg [wi Fr, wi K, .p (.bool sh), .p (.bool jp)]] [] (orc, []) = some (bT, [], ([], cs))) (hh : Hold cs) :
    FnOk Tryz.prog 8 [V8 n, .agg [wi Fr, wi K, .p (.bool sh), .p (.bool jp)]] [] bT [] := runV_ok (M := mSlr) okSlr 200 _ _ _ _ _ (runS_run hr hh)
theorem sl_nat (n : Nat) (Fr K : Int) (sh jp : Bool) : FnOk Tryz.prog 8 [V8 n, .agg [wi Fr, wi K, .p (.bool sh), .p (.bool jp)]] [] bT [] := by
  have hn : n % 5 = 0 ∨ n % 5 = 1 ∨ n % 5 = 2 ∨ n % 5 = 3 ∨ n % 5 = 4 := by omega
  rcases NI_ok K with hK | hK <;> rcases hn with hn | hn | hn | hn | hn <;> cases sh <;> cases jp
  · exact sl_run (sl00FF n Fr K) (hold_eq (n_tmod hn) (hold_eq hK hold_nil))
  · exact sl_run (sl00FT n Fr K) (hold_eq (n_tmod hn) (hold_eq hK hold_nil))
  · exact sl_run (sl00TF n Fr K) (hold_eq (n_tmod hn) (hold_eq hK hold_nil))
  · exact sl_run (sl00TT n Fr K) (hold_eq (n_tmod hn) (hold_eq hK hold_nil))
  · exact sl_run (sl10FF n Fr K) (hold_eq (n_tmod hn) (hold_eq hK hold_nil))
  · exact sl_run (sl10FT n Fr K) (hold_eq (n_tmod hn) (hold_eq hK hold_nil))
  · exact sl_run (sl10TF n Fr K) (hold_eq (n_tmod hn) (hold_eq hK hold_nil))
  · exact sl_run (sl10TT n Fr K) (hold_eq (n_tmod hn) (hold_eq hK hold_nil))
  · exact sl_run (sl20FF n Fr K) (hold_eq (n_tmod hn) (hold_eq hK hold_nil))
  · exact sl_run (sl20FT n Fr K) (hold_eq (n_tmod hn) (hold_eq hK hold_nil))
  · exact sl_run (sl20TF n Fr K) (hold_eq (n_tmod hn) (hold_eq hK hold_nil))
  · exact sl_run (sl20TT n Fr K) (hold_eq (n_tmod hn) (hold_eq hK hold_nil))
  · exact sl_run (sl30FF n Fr K) (hold_eq (n_tmod hn) (hold_eq hK hold_nil))
  · exact sl_run (sl30FT n Fr K) (hold_eq (n_tmod hn) (hold_eq hK hold_nil))
  · exact sl_run (sl30TF n Fr K) (hold_eq (n_tmod hn) (hold_eq hK hold_nil))
  · exact sl_run (sl30TT n Fr K) (hold_eq (n_tmod hn) (hold_eq hK hold_nil))
  · exact sl_run (sl40FF n Fr K) (hold_eq (n_tmod hn) (hold_eq hK hold_nil))
  · exact sl_run (sl40FT n Fr K) (hold_eq (n_tmod hn) (hold_eq hK hold_nil))
  · exact sl_run (sl40TF n Fr K) (hold_eq (n_tmod hn) (hold_eq hK hold_nil))
  · exact sl_run (sl40TT n Fr K) (hold_eq (n_tmod hn) (hold_eq hK hold_nil))
  · exact sl_run (sl01FF n Fr K) (hold_eq (n_tmod hn) (hold_eq hK hold_nil))
  · exact sl_run (sl01FT n Fr K) (hold_eq (n_tmod hn) (hold_eq hK hold_nil))
  · exact sl_run (sl01TF n Fr K) (hold_eq (n_tmod hn) (hold_eq hK hold_nil))
  · exact sl_run (sl01TT n Fr K) (hold_eq (n_tmod hn) (hold_eq hK hold_nil))
  · exact sl_run (sl11FF n Fr K) (hold_eq (n_tmod hn) (hold_eq hK hold_nil))
  · exact sl_run (sl11FT n Fr K) (hold_eq (n_tmod hn) (hold_eq hK hold_nil))
  · exact sl_run (sl11TF n Fr K) (hold_eq (n_tmod hn) (hold_eq hK hold_nil))
  · exact sl_run (sl11TT n Fr K) (hold_eq (n_tmod hn) (hold_eq hK hold_nil))
  · exact sl_run (sl21FF n Fr K) (hold_eq (n_tmod hn) (hold_eq hK hold_nil))
  · exact sl_run (sl21FT n Fr K) (hold_eq (n_tmod hn) (hold_eq hK hold_nil))
  · exact sl_run (sl21TF n Fr K) (hold_eq (n_tmod hn) (hold_eq hK hold_nil))
  · exact sl_run (sl21TT n Fr K) (hold_eq (n_tmod hn) (hold_eq hK hold_nil))
  · exact sl_run (sl31FF n Fr K) (hold_eq (n_tmod hn) (hold_eq hK hold_nil))
  · exact sl_run (sl31FT n Fr K) (hold_eq (n_tmod hn) (hold_eq hK hold_nil))
  · exact sl_run (sl31TF n Fr K) (hold_eq (n_tmod hn) (hold_eq hK hold_nil))
  · exact sl_run (sl31TT n Fr K) (hold_eq (n_tmod hn) (hold_eq hK hold_nil))
  · exact sl_run (sl41FF n Fr K) (hold_eq (n_tmod hn) (hold_eq hK hold_nil))
  · exact sl_run (sl41FT n Fr K) (hold_eq (n_tmod hn) (hold_eq hK hold_nil))
  · exact sl_run (sl41TF n Fr K) (hold_eq (n_tmod hn) (hold_eq hK hold_nil))
  · exact sl_run (sl41TT n Fr K) (hold_eq (n_tmod hn) (hold_eq hK hold_nil))
theorem sl_ok {n : Int} (hn : 0 ≤ n ∧ n ≤ 255) (Fr K : Int) (sh jp : Bool) : FnOk Tryz.prog 8 [.p (.int .u8 n), .agg [wi Fr, wi K, .p (.bool sh), .p (.bool jp)]] [] (.p (.bool true)) [] := by
  obtain ⟨n', rfl⟩ : ∃ m : Nat, n = Int.ofNat m := ⟨n.toNat, by simp only [Int.ofNat_eq_natCast]; omega⟩
  exact sl_nat n' Fr K sh jp
theorem closure8 : Tryz.prog.closure 8 = [8, 49, 50, 44, 43, 63, 120, 68, 79, 84, 86, 147, 146, 203, 256, 239, 148, 206, 207, 259, 294, 273, 303, 324, 337, 338, 325, 340, 339, 349, 307, 295, 221, 272, 171, 131, 192, 224, 274, 225, 275, 226, 276, 130, 260, 261, 65, 121, 88, 186, 185, 81, 122, 187, 92, 93, 153, 208, 154, 109, 11, 174, 51, 31, 89, 90, 91, 52, 57, 113, 176, 177, 58, 114, 178, 182, 232, 277, 278, 304, 326, 327, 341, 342, 331, 343, 328, 237, 175, 126, 230, 139, 202, 254, 255, 201, 245, 251, 246, 287, 247, 288, 289, 248, 290, 291, 314, 249, 250, 252, 253, 231, 179, 62, 233, 14, 67, 69, 23, 77, 140, 76, 138, 200, 128, 127, 191, 129, 70, 132, 193, 243, 133, 194, 164, 195, 244, 196, 103, 163, 165, 215, 166, 167, 216, 267, 300, 322, 323, 217, 218, 268, 219, 269, 270, 301, 220, 271, 302, 104, 168, 222, 169, 223, 170, 172, 105, 17, 110, 234, 180, 235, 279, 106, 280, 305, 306, 308, 281, 236, 115, 45, 30, 82, 143, 80, 142, 83, 144, 204, 257, 205, 258, 292, 293, 316, 315, 332, 318, 317, 333, 320, 319, 334, 344, 335, 336, 347, 352, 346, 350, 355, 351, 356, 357, 353, 358, 365, 359, 360, 366, 367, 368, 361, 362, 363, 364, 345, 348, 354, 321, 145, 87, 150, 149, 151, 152, 85, 32, 46, 36, 40, 95, 107, 48, 102, 116, 181, 238, 240, 282, 241, 283, 309, 329, 284, 310, 285, 286, 311, 312, 330, 313, 242, 117, 55, 53, 112, 111, 60, 119, 184, 59, 118, 183, 108, 173, 227, 228, 229, 54, 56, 25, 22] := by kernel_rfl
theorem inPlace8 : Tryz.prog.inPlace 8 = Rows.serveLeavesRow.inPlace := by
  unfold Program.inPlace
  rw [closure8]
  kernel_rfl
theorem unfollowed8 : Tryz.prog.unfollowed 8 = Rows.serveLeavesRow.unfollowed := by
  unfold Program.unfollowed
  rw [closure8]
  kernel_rfl
theorem recurses8 : Tryz.prog.recurses 8 = Rows.serveLeavesRow.recurses := by
  unfold Program.recurses
  rw [unfollowed8]
  kernel_rfl
theorem varsNamed8 : Tryz.prog.varsNamed 8 = Rows.serveLeavesRow.named := by
  unfold Program.varsNamed
  rw [closure8]
  kernel_rfl
theorem joined8 : joinedFacts Tryz.prog 8 Tryz.f8 Rows.serveLeavesSpec Rows.serveLeavesRow = true := by
  unfold joinedFacts
  rw [inPlace8, unfollowed8, recurses8, varsNamed8]
  kernel_rfl
theorem own_knob8 : ownKnob Tryz.prog.godebug = none := by kernel_rfl
theorem laid_out8 : laidOutB Tryz.prog = true := by kernel_rfl
theorem cells121 : Tryz.prog.cellsOf 121 = 4 := by kernel_rfl
theorem cells3 : Tryz.prog.cellsOf 3 = 1 := by kernel_rfl
theorem cells4 : Tryz.prog.cellsOf 4 = 1 := by kernel_rfl
theorem size4 {cs : Array Value} (h : cs.size = 4) : ∃ c0 c1 c2 c3, cs = #[c0, c1, c2, c3] := by
  obtain ⟨l⟩ := cs
  match l, h with
  | [c0, c1, c2, c3], _ => exact ⟨c0, c1, c2, c3, rfl⟩
theorem trod4 {H : Type} {enc : TypeId × Value → H} {P : Program} {w : World} {base : Nat} {spare : Nat → Bool} {held : Bool} {t : TypeId} {f0 f1 f2 f3 : Field} {fuel : Nat} {cs : List Value} {x : DataW H × List MemPlace} (ht : P.underlying t = some (.struct #[f0, f1, f2, f3])) (h : DataW.trod enc P w base spare held fuel t cs = some x) :
    ∃ y0 y1 y2 y3 n, x = (.agg [y0.1, y1.1, y2.1, y3.1], y0.2 ++ (y1.2 ++ (y2.2 ++ y3.2))) ∧ DataW.trod enc P w base spare held n f0.type ((cs.drop f0.offset).take (P.cellsOf f0.type)) = some y0 ∧
      DataW.trod enc P w base spare held n f1.type ((cs.drop f1.offset).take (P.cellsOf f1.type)) = some y1 ∧ DataW.trod enc P w base spare held n f2.type ((cs.drop f2.offset).take (P.cellsOf f2.type)) = some y2 ∧
      DataW.trod enc P w base spare held n f3.type ((cs.drop f3.offset).take (P.cellsOf f3.type)) = some y3 := by
  obtain ⟨xs, n, _, rfl, _, hlen, hf⟩ := DataW.trod_struct ht h
  match xs, hlen with
  | [y0, y1, y2, y3], _ => exact ⟨y0, y1, y2, y3, n, by simp, by simpa using hf 0 f0 rfl, by simpa using hf 1 f1 rfl, by simpa using hf 2 f2 rfl, by simpa using hf 3 f3 rfl⟩
theorem sl_calls {n : Int} (hn : 0 ≤ n ∧ n ≤ 255) (Fr K : Int) (sh jp : Bool) (w : World) : Calls Tryz.prog 8 #[.int .u8 n, .agg #[.int .i64 Fr, .int .i64 K, .bool sh, .bool jp]] w fun e w' => e = .returned (.bool true) ∧ Below w.heap.size w w' := by
  refine calls_true (sl_ok hn Fr K sh jp) (rl_p (rl_c ?_ rl_nil))
  exact R.agg _ [wi Fr, wi K, .p (.bool sh), .p (.bool jp)] [.int .i64 Fr, .int .i64 K, .bool sh, .bool jp] rfl (fun j h h' => by
      match j, h, h' with
      | 0, _, _ => exact .p _ _
      | 1, _, _ => exact .p _ _
      | 2, _, _ => exact .p _ _
      | 3, _, _ => exact .p _ _)

set_option maxRecDepth 100000 in
theorem serveLeaves_lifted (os : Os) (started : os.Started) (H : Type) (enc : TypeId × Value → H) :
    ReturnsInHanded {} Tryz.checked os 8 .any (Rows.serveLeavesSpec.pre6 enc Tryz.prog Tryz.f8 Rows.serveLeavesRow.domain false) (Rows.serveLeavesSpec.post enc Tryz.prog Tryz.f8 false true false false) := by
  refine returnsInHanded_of_change (C := Tryz.checked) own_knob8 started (by kernel_rfl) Tryz.func8
    (ChangeSpec.witness6 (enc := enc) (C := Tryz.checked) false ⟨#[], #[.int .u8 0, .agg #[.int .i64 0, .int .i64 0, .bool false, .bool false]], []⟩ 8 (by kernel_rfl) (by kernel_rfl) (by kernel_rfl) (by kernel_rfl)) ?_
  intro W base args ds gs before hval0 hW hcnd _
  have hval : ∀ (j : Nat) t v, Tryz.f8.params[j]? = some t → args[j]? = some v → Value.okWide Tryz.prog W .any base t v := hval0
  have hW' := hW
  obtain ⟨p, q, hA0, hV, rfl, hfz, hnd⟩ := hW
  have hA : DataW.TrodAll enc Tryz.prog W 0 (fun _ => true) true Tryz.f8.params.toList args.toList ds p := hA0
  rw [Tryz.params8] at hA hval
  obtain ⟨v0, v1, d0, d1, p0, p1, rfl, rfl, rfl, h0, h1⟩ := trodAll_two hA
  obtain ⟨rfl, rfl⟩ := trodVars_none hV
  obtain ⟨n, rfl, rfl, rfl, wn⟩ := open_int Tryz.underlying5 (hval 0 5 v0 rfl rfl) h0
  obtain ⟨cs, rfl, hsz⟩ := okWide_struct Tryz.underlying121 (hval 1 121 v1 rfl rfl)
  rw [cells121] at hsz
  obtain ⟨c0, c1, c2, c3, rfl⟩ := size4 hsz
  obtain ⟨fuel, hf⟩ := h1
  obtain ⟨y0, y1, y2, y3, m, hx, hy0, hy1, hy2, hy3⟩ := trod4 Tryz.underlying121 hf
  obtain ⟨a, e0, rfl, wa⟩ := DataW.trod_int Tryz.underlying3 hy0
  obtain ⟨b, e1, rfl, wb⟩ := DataW.trod_int Tryz.underlying3 hy1
  obtain ⟨sh, e2, rfl⟩ := DataW.trod_bool Tryz.underlying4 hy2
  obtain ⟨jp, e3, rfl⟩ := DataW.trod_bool Tryz.underlying4 hy3
  simp [Value.cells, cells3, cells4] at e0 e1 e2 e3
  subst e0 e1 e2 e3
  refine (sl_calls (wf_in wn) a b sh jp W).mono fun e W' ⟨he, hb⟩ => ?_
  subst he
  exact ⟨_, rfl, post_true laid_out8 hW' hb (by kernel_rfl) rfl rfl Tryz.underlying4 rfl⟩

theorem serveLeaves : Rows.ServeLeavesSaid :=
  OpenClaim.holds_of_wide 8 Tryz.f8 rfl rfl rfl rfl rfl rfl rfl ⟨rfl, rfl, rfl, rfl, rfl⟩ rfl rfl rfl rfl rfl (by kernel_rfl) Tryz.func8 joined8
    (of_decide_eq_true (by kernel_rfl)) (by unfold Func.isWrapper; first | (rw [if_pos (by decide +kernel)]; kernel_rfl) | (rw [if_neg (by decide +kernel)]; exact ⟨rfl, rfl⟩))
    (fun os started H enc _ => serveLeaves_lifted os started H enc)
#print axioms serveLeaves
end Go.Proofs.YtlemialjfnbchaaGreat
