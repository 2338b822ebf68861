/- group.Make at a row of three, told by its page left open (PubTwins). Made by gn4.py. -/
import Derived.Test.YtlemialjfnbchaaGreatMoP

namespace Go.Proofs.YtlemialjfnbchaaGreat
open Go Go.Vm
set_option maxRecDepth 100000
namespace Be
abbrev argMw (n : Int) (u : Nat) : List AV := [.lst 3 [.p (.string ⟨#[110]⟩), wZ 1, .p (.string ⟨#[115]⟩), wZ 2, .p (.string ⟨#[112]⟩), wZ 3], .lst 1 [.lst 3 [wZ 1, wZ n, .p (.string ⟨#[]⟩), .p (.complex .f64 0 0), wZ 2, wZ 0, .p (.string ⟨#[97]⟩), .p (.complex .f64 0 0), wZ 3, wZ 0, .p (.string ⟨#[]⟩), .p (.complex .f64 (u) 4607182418800017408)]], .lst 1 [wZ 3, wZ 17]]
abbrev resMw (n : Int) (u y : Nat) (p : AV) : AV := .tup [.agg [wZ 1, .lst 3 [wZ 3, wZ 1, wZ 1, wZ 1, wZ 0, wZ 1, wZ n, .p (.string ⟨#[]⟩), .p (.complex .f64 0 0), wZ 1, wZ n, .p (.string ⟨#[]⟩), .p (.complex .f64 0 0), .p (.complex .f64 0 0), .p (.complex .f64 0 0), wZ 4, wZ 1, wZ 2, wZ 1, wZ 0, wZ 2, wZ 0, .p (.string ⟨#[97]⟩), .p (.complex .f64 0 0), wZ 2, wZ 0, .p (.string ⟨#[97]⟩), .p (.complex .f64 0 0), .p (.complex .f64 0 0), .p (.complex .f64 0 0), wZ 5, wZ 1, wZ 3, wZ 1, wZ 0, wZ 0, wZ 0, .p (.string ⟨#[]⟩), .p (.complex .f64 0 0), wZ 0, wZ 0, .p (.string ⟨#[]⟩), .p (.complex .f64 0 0), .p (.complex .f64 (u) 4607182418800017408), .p (.complex .f64 (u) 4607182418800017408)]], .lst 3 [p, .lst 5 (u8A [1, 1, 1, 1, 97]), .lst 5 (u8A [1, 1, 1, y, 2])], .lst 1 [wZ 6, wZ 14], wZ 0]
noncomputable def mMkw : Vm.Mode := ⟨byMask 984232758520558528608141359153505905352985491314625548343048744539537683775488, fun f => cond (Nat.beq f 205) (some fB) (cond (Nat.beq f 88) (some szF) (cond (Nat.beq f 221) (some fV) (cond (Nat.beq f 104) (some fO) (cond (Nat.beq f 259) (some fK) (cond (byMask 231584178474632416558150678161220246678678645320505919641287898105906527731712 f) (some fun args hp => Vm.runC Tryz.prog mo0 100000 f args hp) none)))))⟩
theorem mMkw_ok (f : FuncId) (K : List AV → List Blk → Option (AV × List Blk)) (h : mMkw.ov f = some K) (args : List AV) (hp : List Blk) (r : AV) (hp' : List Blk) (k : K args hp = some (r, hp')) : FnOk Tryz.prog f args hp r hp' := by
  rcases ov_cond h with ⟨rfl, rfl⟩ | h
  · exact fB_con k
  rcases ov_cond h with ⟨rfl, rfl⟩ | h
  · exact telF_con k
  rcases ov_cond h with ⟨rfl, rfl⟩ | h
  · exact fV_con k
  rcases ov_cond h with ⟨rfl, rfl⟩ | h
  · exact fO_con k
  rcases ov_cond h with ⟨rfl, rfl⟩ | h
  · exact fK_con k
  cases hm : byMask 231584178474632416558150678161220246678678645320505919641287898105906527731712 f with
  | false => rw [hm] at h; cases h
  | true =>
    rw [hm] at h
    cases h
    exact runC_ok mo0_ok 100000 _ _ _ _ _ k
def mhw (n : Int) (u y kn : Nat) (xn : List AV) (_w : Int) : List Blk := [{ cells := [wZ 3, wZ 1, wZ 1, wZ 1, wZ 0, wZ 1, wZ n, .p (.string ⟨#[]⟩), .p (.complex .f64 0 0), wZ 1, wZ n, .p (.string ⟨#[]⟩), .p (.complex .f64 0 0), .p (.complex .f64 0 0), .p (.complex .f64 0 0), wZ 4, wZ 1, wZ 2, wZ 1, wZ 0, wZ 2, wZ 0, .p (.string ⟨#[97]⟩), .p (.complex .f64 0 0), wZ 2, wZ 0, .p (.string ⟨#[97]⟩), .p (.complex .f64 0 0), .p (.complex .f64 0 0), .p (.complex .f64 0 0), wZ 5, wZ 1, wZ 3, wZ 1, wZ 0, wZ 0, wZ 0, .p (.string ⟨#[]⟩), .p (.complex .f64 0 0), wZ 0, wZ 0, .p (.string ⟨#[]⟩), .p (.complex .f64 0 0), .p (.complex .f64 (u) 4607182418800017408), .p (.complex .f64 (u) 4607182418800017408)], esz := 15, gen := 2, row := true, ro := false }, { cells := [.lst kn xn, .lst 5 (u8A [1, 1, 1, 1, 97]), .lst 5 (u8A [1, 1, 1, y, 2])], esz := 1, gen := 2, row := false, ro := false }, { cells := [wZ 6, wZ 14], esz := 2, gen := 0, row := true, ro := false }]
theorem mkw_p (n : Int) (u y kn : Nat) (xn : List AV) (w : Int) : runS Tryz.prog mMkw 100000 83 (argMw n u) [] ([(60, .ifc 4294967293 (.p (.int .i64 0))), (44, .ifc 4294967293 (.p (.int .i64 0))), (111, .ifc 4294967293 (.tup [.lst kn xn, wZ w, wZ 0])), (11, bF), (9, .ifc 4294967293 (.tup [stN n, .p (.int .i64 0)])), (89, .ifc 4294967293 (resP y)), (21, .ifc 4294967293 (.tup [stP u, .p (.int .i64 0)])), (60, .ifc 4294967293 (wZ 1)), (37, .ifc 4294967293 (wZ 1)), (37, .ifc 4294967293 (wZ 1))], []) = some (.tup [.agg [wZ 1, .ref 0 2 0 3], .ref 1 2 0 3, .ref 2 0 0 1, wZ 0], mhw n u y kn xn w, ([], [(outF (szF [wZ 5] []), wZ 1), (outF (szF [wZ 5] []), wZ 1), (outF (szF [Vi kn] []), wZ 1), (outF (fO (argP u) []), .tup [stP u, .p (.int .i64 0)]), (outF (fB (argP u) []), resP y), (outF (fO (arg n) []), .tup [stN n, .p (.int .i64 0)]), (gtQ kn 8192, bF), (outF (fB (arg n) []), .tup [.lst kn xn, wZ w, wZ 0]), (outF (fV [.agg (vP u)] []), .p (.int .i64 0)), (outF (fV [.agg (vN n)] []), .p (.int .i64 0))])) := by kernel_rfl
theorem mkw {n w : Int} {i u y kn : Nat} {xn : List AV} (hi : i < 17) (hu : u = ub i) (hy : y = yb i) (h4 : 4 ≤ kn) (h12 : kn ≤ 12) (hB : outF (fB (arg n) []) = .tup [.lst kn xn, wZ w, wZ 0]) : FnOk Tryz.prog 83 (argMw n u) [] (resMw n u y (.lst kn xn)) [] := by
  refine FnOk.frzR (x := some (.tup [.agg [wZ 1, .ref 0 2 0 3], .ref 1 2 0 3, .ref 2 0 0 1, wZ 0], mhw n u y kn xn w)) (fun r hp e => ?_) rfl
  cases e
  exact runV_ok (M := mMkw) mMkw_ok 100000 _ _ _ _ _ (runS_run (mkw_p n u y kn xn w) (hold_eq (sz_eq (k := 5) (by decide) (by decide)) (hold_eq (sz_eq (k := 5) (by decide) (by decide)) (hold_eq (sz_eq (by omega) (by omega)) (hold_eq (o_p hi hu) (hold_eq (b_p hi hu hy) (hold_eq (o_n n) (hold_eq (n_gtF (by omega)) (hold_eq hB (hold_eq (v_p hi hu) (hold_eq (v_n n) hold_nil)))))))))))
end Be
end Go.Proofs.YtlemialjfnbchaaGreat
