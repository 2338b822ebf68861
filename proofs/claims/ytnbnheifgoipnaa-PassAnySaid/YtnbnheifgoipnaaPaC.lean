/- The law PassAny answers true at every round, and leaves what it is given; there are no conditions. -/
import Derived.Test.YtnbnheifgoipnaaPaB
import Derived.Test.YtnbnheifgoipnaaVmL
import Derived.Test.YtnbnheifgoipnaaRows
import Derived.ProofKit
import Derived.Deep.Strs
namespace Go.Proofs.Ytnbnheifgoipnaa
open Go.Deep
open Go Go.Vm Go.ChangeShapes Go.WideShapes Go.ChangeAt Go.RowKit

theorem own_knob : ownKnob Try.prog.godebug = none := by kernel_rfl
theorem laid_out : laidOutB Try.prog = true := by kernel_rfl
theorem cells23 : Try.prog.cellsOf 23 = 3 := by kernel_rfl
theorem cells3 : Try.prog.cellsOf 3 = 1 := by kernel_rfl

theorem any_calls (a n d : Int) (w : World) : Calls Try.prog 3 #[.agg #[.int .i64 a, .int .i64 n, .int .i64 d]] w fun e w' => e = .returned (.bool true) ∧ Below w.heap.size w w' :=
  calls_true (args' := [.agg #[.int .i64 a, .int .i64 n, .int .i64 d]]) (any_ok a n d) ⟨rfl, fun j h h' => by
    have : j = 0 := by simpa using h
    subst this
    exact R.agg _ [vN a, vN n, vN d] [.int .i64 a, .int .i64 n, .int .i64 d] rfl (fun j h h' => by
      match j, h, h' with
      | 0, _, _ => exact .p _ _
      | 1, _, _ => exact .p _ _
      | 2, _, _ => exact .p _ _)⟩

theorem size3 {cs : Array Value} (h : cs.size = 3) : ∃ c0 c1 c2, cs = #[c0, c1, c2] := by
  obtain ⟨l⟩ := cs
  match l, h with
  | [c0, c1, c2], _ => exact ⟨c0, c1, c2, rfl⟩
set_option maxRecDepth 100000 in
theorem passAny_lifted (os : Os) (started : os.Started) (H : Type) (enc : TypeId × Value → H) :
    ReturnsInHanded {} Try.checked os 3 .any (Rows.passAnySpec.pre6 enc Try.prog Try.f3 Rows.passAnyRow.domain false) (Rows.passAnySpec.post enc Try.prog Try.f3 false true false false) := by
  refine returnsInHanded_of_change (C := Try.checked) own_knob started (by kernel_rfl) Try.func3
    (ChangeSpec.witness6 (enc := enc) (C := Try.checked) false ⟨#[], #[.agg #[.int .i64 0, .int .i64 0, .int .i64 0]], []⟩ 8 (by kernel_rfl) (by kernel_rfl) (by kernel_rfl) (by kernel_rfl)) ?_
  intro W base args ds gs before hval0 hW hcnd _
  have hval : ∀ (j : Nat) t v, Try.f3.params[j]? = some t → args[j]? = some v → Value.okWide Try.prog W .any base t v := hval0
  have hW' := hW
  obtain ⟨p, q, hA0, hV, rfl, hfz, hnd⟩ := hW
  have hA : DataW.TrodAll enc Try.prog W 0 (fun _ => true) true Try.f3.params.toList args.toList ds p := hA0
  rw [Try.params3] at hA hval
  obtain ⟨v0, d0, rfl, rfl, h0⟩ := trodAll_one hA
  obtain ⟨rfl, rfl⟩ := trodVars_none hV
  obtain ⟨cs, rfl, hsz⟩ := okWide_struct Try.underlying23 (hval 0 23 v0 rfl rfl)
  rw [cells23] at hsz
  obtain ⟨c0, c1, c2, rfl⟩ := size3 hsz
  obtain ⟨fuel, hf⟩ := h0
  obtain ⟨y0, y1, y2, m, hx, _, hy0, hy1, hy2⟩ := trod_struct3 Try.underlying23 hf
  obtain ⟨a, e0, rfl, wa⟩ := DataW.trod_int Try.underlying3 hy0
  obtain ⟨b, e1, rfl, wb⟩ := DataW.trod_int Try.underlying3 hy1
  obtain ⟨c, e2, rfl, wc⟩ := DataW.trod_int Try.underlying3 hy2
  simp [Value.cells, cells3] at e0 e1 e2
  subst e0 e1 e2
  refine (any_calls a b c W).mono fun e W' ⟨he, hb⟩ => ?_
  subst he
  exact ⟨_, rfl, post_true laid_out hW' hb (by kernel_rfl) rfl rfl Try.underlying4 rfl⟩

theorem passAny : Rows.PassAnySaid :=
  OpenClaim.holds_of_wide 3 Try.f3 rfl rfl rfl rfl rfl rfl rfl ⟨rfl, rfl, rfl, rfl, rfl⟩ rfl rfl rfl rfl rfl (by kernel_rfl) Try.func3 (by kernel_rfl)
    (of_decide_eq_true (by kernel_rfl)) (by unfold Func.isWrapper; first | (rw [if_pos (by decide +kernel)]; kernel_rfl) | (rw [if_neg (by decide +kernel)]; exact ⟨rfl, rfl⟩))
    (fun os started H enc _ => passAny_lifted os started H enc)
#print axioms passAny
end Go.Proofs.Ytnbnheifgoipnaa
