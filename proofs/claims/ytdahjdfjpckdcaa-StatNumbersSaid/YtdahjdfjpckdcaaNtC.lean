/- The law StatNumbers answers true at every row of numbers, every row of truths, every number, and leaves what it is given; there are no conditions. -/
import Derived.Test.YtdahjdfjpckdcaaNtB
import Derived.Test.YtdahjdfjpckdcaaRows
import Derived.ProofKit
namespace Go.Proofs.Ytdahjdfjpckdcaa
open Go Go.Vm Go.ChangeShapes Go.WideShapes Go.ChangeAt Go.RowKit
set_option maxRecDepth 100000
def m22 : Vm.Mode := ⟨fun f => Nat.beq f 68, fun _ => none⟩
theorem ok22 (f : FuncId) (F : List AV → List Blk → Option (AV × List Blk)) (h : m22.ov f = some F) (args : List AV) (hp : List Blk) (r : AV) (hp' : List Blk) (_ : F args hp = some (r, hp')) : FnOk Try.prog f args hp r hp' := by cases h
theorem known22 : FnOk Try.prog 22 [] [] (wB true) [] := runV_ok (M := m22) ok22 200 _ _ _ _ _ (by kernel_rfl)
theorem okZ {A : OvF} (hA : ∀ args hp r hp', A args hp = some (r, hp') → FnOk Try.prog 17 args hp r hp') (f : FuncId) (K : OvF) (h : (mZ A).ov f = some K) (args : List AV) (hp : List Blk) (r : AV) (hp' : List Blk) (k : K args hp = some (r, hp')) : FnOk Try.prog f args hp r hp' := by
  rcases ov_cond h with ⟨rfl, rfl⟩ | h
  · exact of_trueN known22 k
  rcases ov_cond h with ⟨rfl, rfl⟩ | h
  · exact hA _ _ _ _ k
  rcases ov_cond h with ⟨rfl, rfl⟩ | h
  · exact of_cmp k
  cases h
theorem numbers_ok {zs : List Int} {bs : List Bool} (hz : ∀ z ∈ zs, inI4 z) {V : Int} (hV : inI4 V) : FnOk Try.prog 6 [.lst zs.length (zs.map vI4), .lst bs.length (bs.map wB), vI4 V] [] (wB true) [] := by
  have key : ∀ A : OvF, (∀ args hp r hp', A args hp = some (r, hp') → FnOk Try.prog 17 args hp r hp') → (zs.length = 0 → outF (A [nilS, wN 1] []) = .tup [.agg (statZ 0 0), wN 0]) →
      (zs.length ≤ 60 → zs.length ≤ bs.length → 0 < zs.length → outF (A [.lst (rowP zs bs).length (cellsO (rowP zs bs)), wN 1] []) = .tup [.agg (statO (rowP zs bs)), wN 0]) → FnOk Try.prog 6 [.lst zs.length (zs.map vI4), .lst bs.length (bs.map wB), vI4 V] [] (wB true) [] := by
    intro A hov hA0 hA
    refine fn_of_tri (fn := Try.f6) (c := se) Try.func6 (by kernel_rfl) (show (145 : Nat) < 16383 by decide) ?_
    refine Tri.mono (p_tri (orV_ok (okZ hov) 60) (orS_ok 60) hz hV hA0 hA) ?_
    rintro x t hp1 ⟨rfl, h4⟩
    refine ⟨.inr rfl, ?_⟩
    have e1 : resV Try.prog t hp1 Try.f6.results.toList = some [t.get 6] := by kernel_rfl
    rw [e1, h4]
    exact (by kernel_rfl : gcV 0 (wB true) hp1 = some (wB true, []))
  by_cases h0 : zs.length = 0
  · exact key (oneC [nilS, wN 1] (.tup [.agg (statZ 0 0), wN 0])) (fun _ _ _ _ k => of_oneC of_nil k) (fun _ => oneC_eq _ _) (fun _ _ h => by omega)
  · by_cases h60 : (rowP zs bs).length ≤ 64
    · exact key (oneC [.lst (rowP zs bs).length (cellsO (rowP zs bs)), wN 1] (.tup [.agg (statO (rowP zs bs)), wN 0])) (fun _ _ _ _ k => of_oneC (of_ok _ h60) k) (fun h => absurd h h0) (fun _ _ _ => oneC_eq _ _)
    · exact key (fun _ _ => none) (fun _ _ _ _ k => by cases k) (fun h => absurd h h0) (fun h1 h2 _ => by rw [rowP_len h2] at h60; omega)
theorem own_knob6 : ownKnob Try.prog.godebug = none := by kernel_rfl
theorem laid_out6 : laidOutB Try.prog = true := by kernel_rfl
theorem cells21 : Try.prog.cellsOf 21 = 1 := by kernel_rfl
theorem cells4 : Try.prog.cellsOf 4 = 1 := by kernel_rfl

theorem statNumbers_lifted (os : Os) (started : os.Started) (H : Type) (enc : TypeId × Value → H) :
    ReturnsInHanded {} Try.checked os 6 .any (Rows.statNumbersSpec.pre6 enc Try.prog Try.f6 Rows.statNumbersRow.domain false) (Rows.statNumbersSpec.post enc Try.prog Try.f6 false true false false) := by
  refine returnsInHanded_of_change (C := Try.checked) own_knob6 started (by kernel_rfl) Try.func6
    (ChangeSpec.witness6 (enc := enc) (C := Try.checked) false ⟨#[], #[.slice none 0 0, .slice none 0 0, .int .i32 0], []⟩ 8 (by kernel_rfl) (by kernel_rfl) (by kernel_rfl) (by kernel_rfl)) ?_
  intro W base args ds gs before hval0 hW hcnd _
  have hval : ∀ (j : Nat) t v, Try.f6.params[j]? = some t → args[j]? = some v → Value.okWide Try.prog W .any base t v := hval0
  have hW' := hW
  obtain ⟨p, q, hA0, hV, rfl, hfz, hnd⟩ := hW
  have hA : DataW.TrodAll enc Try.prog W 0 (fun _ => true) true Try.f6.params.toList args.toList ds p := hA0
  rw [Try.params6] at hA hval
  obtain ⟨v0, v1, v2, d0, d1, d2, p0, p1, p2, rfl, rfl, rfl, h0, h1, h2⟩ := trodAll_three hA
  obtain ⟨rfl, rfl⟩ := trodVars_none hV
  obtain ⟨zs, _, wz, rz⟩ := row_ints Try.underlying56 Try.underlying21 cells21 (hval 0 56 v0 rfl rfl) h0
  obtain ⟨bs, _, rb⟩ := row_bools Try.underlying57 Try.underlying4 cells4 (hval 1 57 v1 rfl rfl) h1
  obtain ⟨v, rfl, rfl, rfl, wv⟩ := open_int Try.underlying21 (hval 2 21 v2 rfl rfl) h2
  refine (calls_true (numbers_ok (zs := zs) (bs := bs) (fun z hz => wf_in (wz z hz)) (wf_in wv)) (rl_c rz (rl_c rb (rl_p rl_nil)))).mono fun e W' ⟨he, hb⟩ => ?_
  subst he
  exact ⟨_, rfl, post_true laid_out6 hW' hb (by kernel_rfl) rfl rfl Try.underlying4 rfl⟩

theorem statNumbers : Rows.StatNumbersSaid :=
  OpenClaim.holds_of_wide 6 Try.f6 rfl rfl rfl rfl rfl rfl rfl ⟨rfl, rfl, rfl, rfl, rfl⟩ rfl rfl rfl rfl rfl (by kernel_rfl) Try.func6 (by kernel_rfl)
    (of_decide_eq_true (by kernel_rfl)) (by unfold Func.isWrapper; first | (rw [if_pos (by decide +kernel)]; kernel_rfl) | (rw [if_neg (by decide +kernel)]; exact ⟨rfl, rfl⟩))
    (fun os started H enc _ => statNumbers_lifted os started H enc)
#print axioms statNumbers
end Go.Proofs.Ytdahjdfjpckdcaa
