/- The law SuperGreater answers true at any two epochs, whatever is spoilt, and leaves what it is given; there are no conditions. -/
import Derived.Test.YtlemialjfnbchaaSgB0
import Derived.Test.YtlemialjfnbchaaSgB1
import Derived.Test.YtlemialjfnbchaaSgB2
import Derived.Test.YtlemialjfnbchaaSgB3
import Derived.Test.YtlemialjfnbchaaSgB4
import Derived.Test.YtlemialjfnbchaaSgB5
import Derived.Test.YtlemialjfnbchaaSgB6
import Derived.Test.YtlemialjfnbchaaVmM
import Derived.Test.YtlemialjfnbchaaVmL
import Derived.Test.YtlemialjfnbchaaRows
import Derived.ProofKit
namespace Go.Proofs.Ytlemialjfnbchaa
open Go Go.Vm Go.ChangeShapes Go.WideShapes Go.ChangeAt Go.RowKit
set_option maxRecDepth 100000
theorem sg_nat {a b sp : Nat} (ha : a < 256) (hb : b < 256) : FnOk Try.prog 9 [V8 a, V8 b, V8 sp] [] bT [] := by
  have hs : sp % 6 = 0 ∨ sp % 6 = 1 ∨ sp % 6 = 2 ∨ sp % 6 = 3 ∨ sp % 6 = 4 ∨ sp % 6 = 5 := by omega
  rcases Nat.lt_or_ge a 63 with hx | hx <;> rcases Nat.lt_or_ge b 64 with hy | hy
  · rcases hs with hs | hs | hs | hs | hs | hs
    · rcases Nat.lt_or_ge a b with hc | hc
      · exact sg000l_ok ha hb hs hx hy hc
      · exact sg000g_ok ha hb hs hx hy hc
    · exact sg100_ok ha hb hs hx hy
    · exact sg200_ok ha hb hs hx hy
    · exact sg300_ok ha hb hs hx hy
    · exact sg400_ok ha hb hs hx hy
    · exact sg500_ok ha hb hs hx hy
  · rcases hs with hs | hs | hs | hs | hs | hs
    · exact sg001_ok ha hb hs hx hy
    · exact sg101_ok ha hb hs hx hy
    · exact sg201_ok ha hb hs hx hy
    · exact sg301_ok ha hb hs hx hy
    · exact sg401_ok ha hb hs hx hy
    · exact sg501_ok ha hb hs hx hy
  · rcases hs with hs | hs | hs | hs | hs | hs
    · exact sg010_ok ha hb hs hx hy
    · exact sg110_ok ha hb hs hx hy
    · exact sg210_ok ha hb hs hx hy
    · exact sg310_ok ha hb hs hx hy
    · exact sg410_ok ha hb hs hx hy
    · exact sg510_ok ha hb hs hx hy
  · rcases hs with hs | hs | hs | hs | hs | hs
    · rcases Nat.lt_or_ge a b with hc | hc
      · exact sg011l_ok ha hb hs hx hy hc
      · exact sg011g_ok ha hb hs hx hy hc
    · exact sg111_ok ha hb hs hx hy
    · exact sg211_ok ha hb hs hx hy
    · exact sg311_ok ha hb hs hx hy
    · exact sg411_ok ha hb hs hx hy
    · exact sg511_ok ha hb hs hx hy
theorem sg_ok {a b sp : Int} (ha : 0 ≤ a ∧ a ≤ 255) (hb : 0 ≤ b ∧ b ≤ 255) (hs : 0 ≤ sp ∧ sp ≤ 255) : FnOk Try.prog 9 [.p (.int .u8 a), .p (.int .u8 b), .p (.int .u8 sp)] [] (.p (.bool true)) [] := by
  obtain ⟨a', rfl⟩ : ∃ n : Nat, a = Int.ofNat n := ⟨a.toNat, by simp only [Int.ofNat_eq_natCast]; omega⟩
  obtain ⟨b', rfl⟩ : ∃ n : Nat, b = Int.ofNat n := ⟨b.toNat, by simp only [Int.ofNat_eq_natCast]; omega⟩
  obtain ⟨s', rfl⟩ : ∃ n : Nat, sp = Int.ofNat n := ⟨sp.toNat, by simp only [Int.ofNat_eq_natCast]; omega⟩
  simp only [Int.ofNat_eq_natCast] at ha hb
  exact sg_nat (by omega) (by omega)
theorem closure9 : Try.prog.closure 9 = [9, 36, 37, 84, 77, 17, 12, 47, 46, 49, 95, 96, 48, 93, 94, 98, 140, 164, 190, 204, 210, 211, 205, 213, 212, 214, 165, 141, 166, 191, 167, 127, 155, 192, 206, 193, 151, 194, 207, 126, 138, 139, 38, 85, 134, 90, 89, 86, 40, 87, 39, 41, 88, 83, 42, 91, 128, 156, 179, 82, 53, 133, 97, 79, 129, 157, 158, 180, 159, 14, 54, 55, 105, 145, 146, 168, 147, 169, 195, 13, 50, 100, 101, 143, 99, 142, 52, 51, 103, 104, 102, 144, 16, 135] := by kernel_rfl
theorem inPlace9 : Try.prog.inPlace 9 = Rows.superGreaterRow.inPlace := by
  unfold Program.inPlace
  rw [closure9]
  kernel_rfl
theorem unfollowed9 : Try.prog.unfollowed 9 = Rows.superGreaterRow.unfollowed := by
  unfold Program.unfollowed
  rw [closure9]
  kernel_rfl
theorem recurses9 : Try.prog.recurses 9 = Rows.superGreaterRow.recurses := by
  unfold Program.recurses
  rw [unfollowed9]
  kernel_rfl
theorem varsNamed9 : Try.prog.varsNamed 9 = Rows.superGreaterRow.named := by
  unfold Program.varsNamed
  rw [closure9]
  kernel_rfl
theorem joined9 : joinedFacts Try.prog 9 Try.f9 Rows.superGreaterSpec Rows.superGreaterRow = true := by
  unfold joinedFacts
  rw [inPlace9, unfollowed9, recurses9, varsNamed9]
  kernel_rfl
theorem own_knob9 : ownKnob Try.prog.godebug = none := by kernel_rfl
theorem laid_out9 : laidOutB Try.prog = true := by kernel_rfl

set_option maxRecDepth 100000 in
theorem superGreater_lifted (os : Os) (started : os.Started) (H : Type) (enc : TypeId × Value → H) :
    ReturnsInHanded {} Try.checked os 9 .any (Rows.superGreaterSpec.pre6 enc Try.prog Try.f9 Rows.superGreaterRow.domain false) (Rows.superGreaterSpec.post enc Try.prog Try.f9 false true false false) := by
  refine returnsInHanded_of_change (C := Try.checked) own_knob9 started (by kernel_rfl) Try.func9
    (ChangeSpec.witness6 (enc := enc) (C := Try.checked) false ⟨#[], #[.int .u8 0, .int .u8 0, .int .u8 0], []⟩ 8 (by kernel_rfl) (by kernel_rfl) (by kernel_rfl) (by kernel_rfl)) ?_
  intro W base args ds gs before hval0 hW hcnd _
  have hval : ∀ (j : Nat) t v, Try.f9.params[j]? = some t → args[j]? = some v → Value.okWide Try.prog W .any base t v := hval0
  have hW' := hW
  obtain ⟨p, q, hA0, hV, rfl, hfz, hnd⟩ := hW
  have hA : DataW.TrodAll enc Try.prog W 0 (fun _ => true) true Try.f9.params.toList args.toList ds p := hA0
  rw [Try.params9] at hA hval
  obtain ⟨v0, v1, v2, d0, d1, d2, p0, p1, p2, rfl, rfl, rfl, h0, h1, h2⟩ := trodAll_three hA
  obtain ⟨rfl, rfl⟩ := trodVars_none hV
  obtain ⟨a, rfl, rfl, rfl, wa⟩ := open_int Try.underlying5 (hval 0 5 v0 rfl rfl) h0
  obtain ⟨b, rfl, rfl, rfl, wb⟩ := open_int Try.underlying5 (hval 1 5 v1 rfl rfl) h1
  obtain ⟨c, rfl, rfl, rfl, wc⟩ := open_int Try.underlying5 (hval 2 5 v2 rfl rfl) h2
  refine (calls_true (sg_ok (wf_in wa) (wf_in wb) (wf_in wc)) (rl_p (rl_p (rl_p rl_nil)))).mono fun e W' ⟨he, hb⟩ => ?_
  subst he
  exact ⟨_, rfl, post_true laid_out9 hW' hb (by kernel_rfl) rfl rfl Try.underlying4 rfl⟩

theorem superGreater : Rows.SuperGreaterSaid :=
  OpenClaim.holds_of_wide 9 Try.f9 rfl rfl rfl rfl rfl rfl rfl ⟨rfl, rfl, rfl, rfl, rfl⟩ rfl rfl rfl rfl rfl (by kernel_rfl) Try.func9 joined9
    (of_decide_eq_true (by kernel_rfl)) (by unfold Func.isWrapper; first | (rw [if_pos (by decide +kernel)]; kernel_rfl) | (rw [if_neg (by decide +kernel)]; exact ⟨rfl, rfl⟩))
    (fun os started H enc _ => superGreater_lifted os started H enc)
#print axioms superGreater
end Go.Proofs.Ytlemialjfnbchaa
