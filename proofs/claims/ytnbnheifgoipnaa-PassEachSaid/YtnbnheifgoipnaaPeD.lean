/- The law PassEach answers true at every two bytes, and leaves what it is given; there are no conditions. -/
import Derived.Test.YtnbnheifgoipnaaPeC
import Derived.Test.YtnbnheifgoipnaaVmL
import Derived.Test.YtnbnheifgoipnaaRows
import Derived.ProofKit
namespace Go.Proofs.Ytnbnheifgoipnaa
open Go Go.Vm Go.ChangeShapes Go.WideShapes Go.ChangeAt Go.RowKit

theorem own_knob5 : ownKnob Try.prog.godebug = none := by kernel_rfl
theorem laid_out5 : laidOutB Try.prog = true := by kernel_rfl
theorem u8_in {a : Int} (h : (Lit.int .u8 a).wf = true) : 0 ≤ a ∧ a ≤ 255 := by
  have h' : decide (IntKind.u8.min ≤ a ∧ a ≤ IntKind.u8.max) = true := by simpa [Lit.wf] using h
  have h2 := of_decide_eq_true h'
  exact ⟨h2.1, h2.2⟩

theorem each_calls {a b : Int} (ha : 0 ≤ a ∧ a ≤ 255) (hb : 0 ≤ b ∧ b ≤ 255) (w : World) : Calls Try.prog 5 #[.int .u8 a, .int .u8 b] w fun e w' => e = .returned (.bool true) ∧ Below w.heap.size w w' := by
  obtain ⟨m, rfl⟩ := Int.eq_ofNat_of_zero_le hb.1
  exact calls_true (args' := [.int .u8 a, .int .u8 (Int.ofNat m)]) (each_ok a m (by omega) ha.1 ha.2) ⟨rfl, fun j h h' => by
    match j, h, h' with
    | 0, _, _ => exact .p _ _
    | 1, _, _ => exact .p _ _⟩

set_option maxRecDepth 100000 in
theorem passEach_lifted (os : Os) (started : os.Started) (H : Type) (enc : TypeId × Value → H) :
    ReturnsInHanded {} Try.checked os 5 .any (Rows.passEachSpec.pre6 enc Try.prog Try.f5 Rows.passEachRow.domain false) (Rows.passEachSpec.post enc Try.prog Try.f5 false true false false) := by
  refine returnsInHanded_of_change (C := Try.checked) own_knob5 started (by kernel_rfl) Try.func5
    (ChangeSpec.witness6 (enc := enc) (C := Try.checked) false ⟨#[], #[.int .u8 0, .int .u8 0], []⟩ 8 (by kernel_rfl) (by kernel_rfl) (by kernel_rfl) (by kernel_rfl)) ?_
  intro W base args ds gs before hval0 hW hcnd _
  have hval : ∀ (j : Nat) t v, Try.f5.params[j]? = some t → args[j]? = some v → Value.okWide Try.prog W .any base t v := hval0
  have hW' := hW
  obtain ⟨p, q, hA0, hV, rfl, hfz, hnd⟩ := hW
  have hA : DataW.TrodAll enc Try.prog W 0 (fun _ => true) true Try.f5.params.toList args.toList ds p := hA0
  rw [Try.params5] at hA hval
  obtain ⟨v0, v1, d0, d1, p0, p1, rfl, rfl, rfl, h0, h1⟩ := trodAll_two hA
  obtain ⟨rfl, rfl⟩ := trodVars_none hV
  obtain ⟨a, rfl, rfl, rfl, wa⟩ := open_int Try.underlying5 (hval 0 5 v0 rfl rfl) h0
  obtain ⟨b, rfl, rfl, rfl, wb⟩ := open_int Try.underlying5 (hval 1 5 v1 rfl rfl) h1
  refine (each_calls (u8_in wa) (u8_in wb) W).mono fun e W' ⟨he, hb⟩ => ?_
  subst he
  exact ⟨_, rfl, post_true laid_out5 hW' hb (by kernel_rfl) rfl rfl Try.underlying4 rfl⟩

theorem passEach : Rows.PassEachSaid :=
  OpenClaim.holds_of_wide 5 Try.f5 rfl rfl rfl rfl rfl rfl rfl ⟨rfl, rfl, rfl, rfl, rfl⟩ rfl rfl rfl rfl rfl (by kernel_rfl) Try.func5 (by kernel_rfl)
    (of_decide_eq_true (by kernel_rfl)) (by unfold Func.isWrapper; first | (rw [if_pos (by decide +kernel)]; kernel_rfl) | (rw [if_neg (by decide +kernel)]; exact ⟨rfl, rfl⟩))
    (fun os started H enc _ => passEach_lifted os started H enc)
#print axioms passEach
end Go.Proofs.Ytnbnheifgoipnaa
