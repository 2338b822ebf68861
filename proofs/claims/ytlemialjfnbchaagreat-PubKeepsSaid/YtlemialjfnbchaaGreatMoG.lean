/- foot.Get at a foot with one row: what is taken as told. Made by gn4.py. -/
import Derived.Test.YtlemialjfnbchaaGreatMoA

namespace Go.Proofs.YtlemialjfnbchaaGreat
open Go Go.Vm
set_option maxRecDepth 100000
namespace Be
noncomputable def mGt : Vm.Mode := ⟨byMask 984232758520558477186123942865817088010198536377139548543891451721150978064384, fun f => cond (Nat.beq f 186) (some sumV) (cond (Nat.beq f 221) (some fV) (cond (Nat.beq f 259) (some fK) (cond (byMask 9039347148785967881655793284378890621227941343047195608823873536996826453508995964762849280 f) (some fun args hp => Vm.runC Tryz.prog mo0 100000 f args hp) none)))⟩
theorem mGt_ok (f : FuncId) (K : List AV → List Blk → Option (AV × List Blk)) (h : mGt.ov f = some K) (args : List AV) (hp : List Blk) (r : AV) (hp' : List Blk) (k : K args hp = some (r, hp')) : FnOk Tryz.prog f args hp r hp' := by
  rcases ov_cond h with ⟨rfl, rfl⟩ | h
  · exact Sm.su_con k
  rcases ov_cond h with ⟨rfl, rfl⟩ | h
  · exact fV_con k
  rcases ov_cond h with ⟨rfl, rfl⟩ | h
  · exact fK_con k
  cases hm : byMask 9039347148785967881655793284378890621227941343047195608823873536996826453508995964762849280 f with
  | false => rw [hm] at h; cases h
  | true =>
    rw [hm] at h
    cases h
    exact runC_ok mo0_ok 100000 _ _ _ _ _ k
abbrev ftR (n : Int) (u : Nat) : AV := .tup [.agg [.p (.int .u64 2), .lst 3 [.p (.string ⟨#[110]⟩), wZ 1, .p (.string ⟨#[115]⟩), wZ 2, .p (.string ⟨#[112]⟩), wZ 3], .lst 1 [wZ 1, .lst 3 [wZ 3, wZ 1, wZ 1, wZ 1, wZ 0, wZ 1, wZ n, .p (.string ⟨#[]⟩), .p (.complex .f64 0 0), wZ 1, wZ n, .p (.string ⟨#[]⟩), .p (.complex .f64 0 0), .p (.complex .f64 0 0), .p (.complex .f64 0 0), wZ 4, wZ 1, wZ 2, wZ 1, wZ 0, wZ 2, wZ 0, .p (.string ⟨#[97]⟩), .p (.complex .f64 0 0), wZ 2, wZ 0, .p (.string ⟨#[97]⟩), .p (.complex .f64 0 0), .p (.complex .f64 0 0), .p (.complex .f64 0 0), wZ 5, wZ 1, wZ 3, wZ 1, wZ 0, wZ 0, wZ 0, .p (.string ⟨#[]⟩), .p (.complex .f64 0 0), wZ 0, wZ 0, .p (.string ⟨#[]⟩), .p (.complex .f64 0 0), .p (.complex .f64 (u) 4607182418800017408), .p (.complex .f64 (u) 4607182418800017408)]]], wZ 0]
theorem zig0 {n : Int} (h : zigN n = 0) : n = 0 := by
  unfold zigN at h
  split at h <;> omega
end Be
end Go.Proofs.YtlemialjfnbchaaGreat
