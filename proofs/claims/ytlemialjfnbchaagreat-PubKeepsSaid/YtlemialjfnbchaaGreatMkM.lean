/- group.Make at a row of three, told by its page left open (PubKeeps). Made by gn4.py. -/
import Derived.Test.YtlemialjfnbchaaGreatMoP
import Derived.Test.YtlemialjfnbchaaGreatMoG0
import Derived.Test.YtlemialjfnbchaaGreatMoG1
import Derived.Test.YtlemialjfnbchaaGreatMoG2
import Derived.Test.YtlemialjfnbchaaGreatMoW
import Derived.Test.YtlemialjfnbchaaGreatKaA

namespace Go.Proofs.YtlemialjfnbchaaGreat
open Go Go.Vm
set_option maxRecDepth 100000
namespace Be
abbrev argMk (n : Int) (u : Nat) : List AV := [.lst 3 [.p (.string ⟨#[110]⟩), wZ 1, .p (.string ⟨#[115]⟩), wZ 2, .p (.string ⟨#[112]⟩), wZ 3], .lst 1 [.lst 3 [wZ 1, wZ n, .p (.string ⟨#[]⟩), .p (.complex .f64 0 0), wZ 2, wZ 0, .p (.string ⟨#[97]⟩), .p (.complex .f64 0 0), wZ 3, wZ 0, .p (.string ⟨#[]⟩), .p (.complex .f64 (u) 4607182418800017408)]], .lst 1 [wZ 3, wZ 21]]
abbrev resMk (n : Int) (u y : Nat) (p : AV) : AV := .tup [.agg [wZ 1, .lst 3 [wZ 3, wZ 1, wZ 1, wZ 1, wZ 0, wZ 1, wZ n, .p (.string ⟨#[]⟩), .p (.complex .f64 0 0), wZ 1, wZ n, .p (.string ⟨#[]⟩), .p (.complex .f64 0 0), .p (.complex .f64 0 0), .p (.complex .f64 0 0), wZ 4, wZ 1, wZ 2, wZ 1, wZ 0, wZ 2, wZ 0, .p (.string ⟨#[97]⟩), .p (.complex .f64 0 0), wZ 2, wZ 0, .p (.string ⟨#[97]⟩), .p (.complex .f64 0 0), .p (.complex .f64 0 0), .p (.complex .f64 0 0), wZ 5, wZ 1, wZ 3, wZ 1, wZ 0, wZ 0, wZ 0, .p (.string ⟨#[]⟩), .p (.complex .f64 0 0), wZ 0, wZ 0, .p (.string ⟨#[]⟩), .p (.complex .f64 0 0), .p (.complex .f64 (u) 4607182418800017408), .p (.complex .f64 (u) 4607182418800017408)]], .lst 3 [p, .lst 5 (u8A [1, 1, 1, 1, 97]), .lst 5 (u8A [1, 1, 1, y, 2])], .lst 1 [wZ 6, wZ 18], wZ 0]
noncomputable def mMkk : Vm.Mode := ⟨byMask 984232758520558528608141359153505905352985491314625548343048744539537683775488, fun f => cond (Nat.beq f 205) (some fB) (cond (Nat.beq f 88) (some szF) (cond (Nat.beq f 221) (some fV) (cond (Nat.beq f 104) (some fO) (cond (Nat.beq f 259) (some fK) (cond (byMask 231584178474632416558150678161220246678678645320505919641287898105906527731712 f) (some fun args hp => Vm.runC Tryz.prog mo0 100000 f args hp) none)))))⟩
theorem mMkk_ok (f : FuncId) (K : List AV → List Blk → Option (AV × List Blk)) (h : mMkk.ov f = some K) (args : List AV) (hp : List Blk) (r : AV) (hp' : List Blk) (k : K args hp = some (r, hp')) : FnOk Tryz.prog f args hp r hp' := by
  rcases ov_cond h with ⟨rfl, rfl⟩ | h
  · exact fB_con k
  rcases ov_cond h with ⟨rfl, rfl⟩ | h
  · exact telF_con k
  rcases ov_cond h with ⟨rfl, rfl⟩ | h
  · exact fV_con k
  rcases ov_cond h with ⟨rfl, rfl⟩ | h
  · exact fO_con k
  rcases ov_cond h with ⟨rfl, rfl⟩ | h
  · exact fK_con k
  cases hm : byMask 231584178474632416558150678161220246678678645320505919641287898105906527731712 f with
  | false => rw [hm] at h; cases h
  | true =>
    rw [hm] at h
    cases h
    exact runC_ok mo0_ok 100000 _ _ _ _ _ k
def mhk (n : Int) (u y kn : Nat) (xn : List AV) (_w : Int) : List Blk := [{ cells := [wZ 3, wZ 1, wZ 1, wZ 1, wZ 0, wZ 1, wZ n, .p (.string ⟨#[]⟩), .p (.complex .f64 0 0), wZ 1, wZ n, .p (.string ⟨#[]⟩), .p (.complex .f64 0 0), .p (.complex .f64 0 0), .p (.complex .f64 0 0), wZ 4, wZ 1, wZ 2, wZ 1, wZ 0, wZ 2, wZ 0, .p (.string ⟨#[97]⟩), .p (.complex .f64 0 0), wZ 2, wZ 0, .p (.string ⟨#[97]⟩), .p (.complex .f64 0 0), .p (.complex .f64 0 0), .p (.complex .f64 0 0), wZ 5, wZ 1, wZ 3, wZ 1, wZ 0, wZ 0, wZ 0, .p (.string ⟨#[]⟩), .p (.complex .f64 0 0), wZ 0, wZ 0, .p (.string ⟨#[]⟩), .p (.complex .f64 0 0), .p (.complex .f64 (u) 4607182418800017408), .p (.complex .f64 (u) 4607182418800017408)], esz := 15, gen := 2, row := true, ro := false }, { cells := [.lst kn xn, .lst 5 (u8A [1, 1, 1, 1, 97]), .lst 5 (u8A [1, 1, 1, y, 2])], esz := 1, gen := 2, row := false, ro := false }, { cells := [wZ 6, wZ 18], esz := 2, gen := 0, row := true, ro := false }]
theorem mkk_p (n : Int) (u y kn : Nat) (xn : List AV) (w : Int) : runS Tryz.prog mMkk 100000 83 (argMk n u) [] ([(60, .ifc 4294967293 (.p (.int .i64 0))), (44, .ifc 4294967293 (.p (.int .i64 0))), (111, .ifc 4294967293 (.tup [.lst kn xn, wZ w, wZ 0])), (11, bF), (9, .ifc 4294967293 (.tup [stN n, .p (.int .i64 0)])), (89, .ifc 4294967293 (resP y)), (21, .ifc 4294967293 (.tup [stP u, .p (.int .i64 0)])), (60, .ifc 4294967293 (wZ 1)), (37, .ifc 4294967293 (wZ 1)), (37, .ifc 4294967293 (wZ 1))], []) = some (.tup [.agg [wZ 1, .ref 0 2 0 3], .ref 1 2 0 3, .ref 2 0 0 1, wZ 0], mhk n u y kn xn w, ([], [(outF (szF [wZ 5] []), wZ 1), (outF (szF [wZ 5] []), wZ 1), (outF (szF [Vi kn] []), wZ 1), (outF (fO (argP u) []), .tup [stP u, .p (.int .i64 0)]), (outF (fB (argP u) []), resP y), (outF (fO (arg n) []), .tup [stN n, .p (.int .i64 0)]), (gtQ kn 8192, bF), (outF (fB (arg n) []), .tup [.lst kn xn, wZ w, wZ 0]), (outF (fV [.agg (vP u)] []), .p (.int .i64 0)), (outF (fV [.agg (vN n)] []), .p (.int .i64 0))])) := by kernel_rfl
theorem mkk {n w : Int} {i u y kn : Nat} {xn : List AV} (hi : i < 17) (hu : u = ub i) (hy : y = yb i) (h4 : 4 ≤ kn) (h12 : kn ≤ 12) (hB : outF (fB (arg n) []) = .tup [.lst kn xn, wZ w, wZ 0]) : FnOk Tryz.prog 83 (argMk n u) [] (resMk n u y (.lst kn xn)) [] := by
  refine FnOk.frzR (x := some (.tup [.agg [wZ 1, .ref 0 2 0 3], .ref 1 2 0 3, .ref 2 0 0 1, wZ 0], mhk n u y kn xn w)) (fun r hp e => ?_) rfl
  cases e
  exact runV_ok (M := mMkk) mMkk_ok 100000 _ _ _ _ _ (runS_run (mkk_p n u y kn xn w) (hold_eq (sz_eq (k := 5) (by decide) (by decide)) (hold_eq (sz_eq (k := 5) (by decide) (by decide)) (hold_eq (sz_eq (by omega) (by omega)) (hold_eq (o_p hi hu) (hold_eq (b_p hi hu hy) (hold_eq (o_n n) (hold_eq (n_gtF (by omega)) (hold_eq hB (hold_eq (v_p hi hu) (hold_eq (v_n n) hold_nil)))))))))))
end Be
end Go.Proofs.YtlemialjfnbchaaGreat

namespace Go.Proofs.YtlemialjfnbchaaGreat
open Go Go.Vm
set_option maxRecDepth 100000
namespace Be
theorem gt0 : FnOk Tryz.prog 156 [.lst 39 (u8A (ftE1 0 0))] [] (ftR 0 0) [] := FnOk.frzR (x := Vm.runC Tryz.prog mo0 100000 156 [.lst 39 (u8A (ftE1 0 0))] []) (fun r hp e => runC_ok mo0_ok 100000 _ _ _ _ _ e) (by kernel_rfl)
theorem get_ft {n r : Int} {i u y z : Nat} (hn1 : in64 n) (hz1 : z = zigN n) (hi : i < 17) (hr : r = (i : Int) - 8) (hu : u = ub i) (hy : y = yb i) (hr0 : r = n.tmod 9) : FnOk Tryz.prog 156 [.lst (ftl z y).length (u8A (ftl z y))] [] (ftR n u) [] := by
  rcases Nat.decEq i 8 with h8 | h8
  · have hy0 : 0 < y := hy ▸ yb_pos hi h8
    rcases Nat.lt_or_ge z 128 with h | h
    · rw [ftl_1 h]
      rcases Nat.eq_zero_or_pos z with hp0 | hp0
      · have e0 := zig0 (hz1 ▸ hp0)
        subst e0
        have er : r = 0 := hr0
        exact absurd (show i = 8 by omega) h8
      · exact gt1 hn1 hz1 h hp0 hi hr hu hy hy0
    rcases Nat.lt_or_ge z 16384 with h | h
    · rw [ftl_2 (by omega) h]; exact gt2 hn1 hz1 (by omega) h hi hr hu hy hy0
    rcases Nat.lt_or_ge z 2097152 with h | h
    · rw [ftl_3 (by omega) h]; exact gt3 hn1 hz1 (by omega) h hi hr hu hy hy0
    rcases Nat.lt_or_ge z 268435456 with h | h
    · rw [ftl_4 (by omega) h]; exact gt4 hn1 hz1 (by omega) h hi hr hu hy hy0
    rcases Nat.lt_or_ge z 34359738368 with h | h
    · rw [ftl_5 (by omega) h]; exact gt5 hn1 hz1 (by omega) h hi hr hu hy hy0
    rcases Nat.lt_or_ge z 4398046511104 with h | h
    · rw [ftl_6 (by omega) h]; exact gt6 hn1 hz1 (by omega) h hi hr hu hy hy0
    rcases Nat.lt_or_ge z 562949953421312 with h | h
    · rw [ftl_7 (by omega) h]; exact gt7 hn1 hz1 (by omega) h hi hr hu hy hy0
    rcases Nat.lt_or_ge z 72057594037927936 with h | h
    · rw [ftl_8 (by omega) h]; exact gt8 hn1 hz1 (by omega) h hi hr hu hy hy0
    rcases Nat.lt_or_ge z 9223372036854775808 with h | h
    · rw [ftl_9 (by omega) h]; exact gt9 hn1 hz1 (by omega) h hi hr hu hy hy0
    rw [ftl_10 h]; exact gt10 hn1 hz1 h hi hr hu hy hy0
  · subst h8
    subst hu
    subst hy
    rcases Nat.lt_or_ge z 128 with h | h
    · rw [ftl_1 h]
      rcases Nat.eq_zero_or_pos z with hp0 | hp0
      · have e0 := zig0 (hz1 ▸ hp0)
        subst e0
        rw [hp0]
        exact gt0
      · exact gt1o hn1 hz1 h hp0
    rcases Nat.lt_or_ge z 16384 with h | h
    · rw [ftl_2 (by omega) h]; exact gt2o hn1 hz1 (by omega) h
    rcases Nat.lt_or_ge z 2097152 with h | h
    · rw [ftl_3 (by omega) h]; exact gt3o hn1 hz1 (by omega) h
    rcases Nat.lt_or_ge z 268435456 with h | h
    · rw [ftl_4 (by omega) h]; exact gt4o hn1 hz1 (by omega) h
    rcases Nat.lt_or_ge z 34359738368 with h | h
    · rw [ftl_5 (by omega) h]; exact gt5o hn1 hz1 (by omega) h
    rcases Nat.lt_or_ge z 4398046511104 with h | h
    · rw [ftl_6 (by omega) h]; exact gt6o hn1 hz1 (by omega) h
    rcases Nat.lt_or_ge z 562949953421312 with h | h
    · rw [ftl_7 (by omega) h]; exact gt7o hn1 hz1 (by omega) h
    rcases Nat.lt_or_ge z 72057594037927936 with h | h
    · rw [ftl_8 (by omega) h]; exact gt8o hn1 hz1 (by omega) h
    rcases Nat.lt_or_ge z 9223372036854775808 with h | h
    · rw [ftl_9 (by omega) h]; exact gt9o hn1 hz1 (by omega) h
    rw [ftl_10 h]; exact gt10o hn1 hz1 h
end Be
end Go.Proofs.YtlemialjfnbchaaGreat

namespace Go.Proofs.YtlemialjfnbchaaGreat
open Go Go.Vm
set_option maxRecDepth 100000
namespace Be
namespace Kp
abbrev V16 (e : Nat) : AV := .p (.int .u16 (Int.ofNat e))
abbrev R16 (p j : Nat) : AV := .p (.int .u16 (Int.fdiv (Int.ofNat p) (2 ^ (min (Int.toNat (Int.ofNat j)) IntKind.u16.bits))))
abbrev N16 (p q : Nat) : AV := .p (.int .u16 (IntKind.wrap .u16 (Int.ofNat (BitVec.ofInt 16 (Int.ofNat p) &&& BitVec.ofInt 16 (Int.ofNat q)).toNat)))
theorem n_and1_u16 {p e : Nat} (h : p < 65536) (he : p % 2 = e) : N16 p 1 = V16 e := by
  subst he
  unfold N16 V16
  rw [BitVec.toNat_and, bvNat (by simpa using h), bvNat (by decide : 1 < 2 ^ 16), Nat.and_one_is_mod]
  congr 2
  show (if (false && decide ((Int.ofNat (p % 2) % 65536 : Int) ≥ 32768)) = true then Int.ofNat (p % 2) % 65536 - 65536 else Int.ofNat (p % 2) % 65536) = _
  simp
  omega
abbrev CHn (n : Int) : AV := .p (.bool (!(((((n == n) && true) && true) && ((((n == n) && true) && true) && true)) && true)))
theorem n_chn (n : Int) : CHn n = bF := by simp [CHn]
abbrev CHu (u : Nat) : AV := .p (.bool (!((((((Op.floatEq .f64 u u) && true) && true) && ((((Op.floatEq .f64 u u) && true) && true) && true)) && true) && true)))
theorem n_chu {i u : Nat} (hi : i < 17) (hu : u = ub i) : CHu u = bF := by
  have h := fe_all
  subst hu
  simp [CHu, h i hi]
abbrev sW : List Nat := [51, 215, 91, 33, 5, 1, 1, 1, 1, 97, 0, 0, 0, 0, 0, 0, 0, 0, 0, 0, 0, 0, 0, 0, 0, 0, 0, 0, 0, 0, 0, 0, 0, 0, 0, 0, 0, 0, 0, 0, 0, 0, 0, 0, 0, 0, 0, 0, 0, 0, 0, 0, 0, 0, 0, 0, 0, 0, 0, 0, 0, 0, 0, 0]
abbrev oW : List Nat := [162, 137, 23, 116, 12, 1, 3, 1, 110, 1, 1, 115, 2, 1, 112, 3, 0, 0, 0, 0, 0, 0, 0, 0, 0, 0, 0, 0, 0, 0, 0, 0, 0, 0, 0, 0, 0, 0, 0, 0, 0, 0, 0, 0, 0, 0, 0, 0, 0, 0, 0, 0, 0, 0, 0, 0, 0, 0, 0, 0, 0, 0, 0, 0]
theorem sW_eq : wrapL slE = sW := by kernel_rfl
theorem oW_eq : wrapL ofE = oW := by kernel_rfl
theorem hWs : outF (wrF [.lst 5 (u8A slE)] []) = .tup [.lst 64 (u8A sW), wZ 0] := sW_eq ▸ telF_eq wrap_sl (wrapV_eq (by decide))
theorem hU0 : outF (unF [.lst 64 (u8A oW)] []) = .tup [.lst 12 (u8A ofE), wZ 0] := oW_eq ▸ telF_eq unw_of (unwV_eq (by decide) (by decide))
noncomputable def fgF (n : Int) (u kf : Nat) (xf : List AV) (args : List AV) (hp : List Blk) : Option (AV × List Blk) := cond (Nat.beq (kB args) 1) (Vm.runC Tryz.prog mo0 100000 156 args hp) (conF [.lst kf xf] (ftR n u) args hp)
theorem fgF_con {n : Int} {u kf : Nat} {xf : List AV} (hA : FnOk Tryz.prog 156 [.lst kf xf] [] (ftR n u) []) {args : List AV} {hp hp' : List Blk} {r : AV} (h : fgF n u kf xf args hp = some (r, hp')) : FnOk Tryz.prog 156 args hp r hp' := by
  unfold fgF at h
  cases h2 : Nat.beq (kB args) 1 with
  | true => rw [h2] at h; exact runC_ok mo0_ok 100000 _ _ _ _ _ h
  | false => rw [h2] at h; exact conF_con hA h
theorem fgF_eq {n : Int} {u kf : Nat} {xf : List AV} (h : kB [.lst kf xf] = 2) : outF (fgF n u kf xf [.lst kf xf] []) = ftR n u := by
  unfold fgF
  rw [h]
  exact conF_eq
noncomputable def m1 (n : Int) (u y kn kf : Nat) (xn xf : List AV) : Vm.Mode := ⟨byMask 984232758520558477186123942865908431873423412006989276036178848060185920929792, fun f => cond (Nat.beq f 186) (some sumV) (cond (Nat.beq f 28) (some Ka.knownV) (cond (Nat.beq f 83) (some (conF (argMk n u) (resMk n u y (.lst kn xn)))) (cond (Nat.beq f 86) (some (conF [ftA n u] (.tup [.lst kf xf, wZ 0]))) (cond (Nat.beq f 121) (some wrF) (cond (Nat.beq f 133) (some unF) (cond (Nat.beq f 88) (some szF) (cond (Nat.beq f 156) (some (fgF n u kf xf)) (cond (Nat.beq f 221) (some fV) (cond (Nat.beq f 259) (some fK) (cond (byMask 6582018229284830197314130720203940682186953655826206317395050528 f) (some fun args hp => Vm.runC Tryz.prog mo0 100000 f args hp) none))))))))))⟩
theorem m1_ok {n : Int} {u y kn kf : Nat} {xn xf : List AV} (hM : FnOk Tryz.prog 83 (argMk n u) [] (resMk n u y (.lst kn xn)) []) (hP : FnOk Tryz.prog 86 [ftA n u] [] (.tup [.lst kf xf, wZ 0]) []) (hG : FnOk Tryz.prog 156 [.lst kf xf] [] (ftR n u) []) (f : FuncId) (K : List AV → List Blk → Option (AV × List Blk)) (h : (m1 n u y kn kf xn xf).ov f = some K) (args : List AV) (hp : List Blk) (r : AV) (hp' : List Blk) (k : K args hp = some (r, hp')) : FnOk Tryz.prog f args hp r hp' := by
  rcases ov_cond h with ⟨rfl, rfl⟩ | h
  · exact Sm.su_con k
  rcases ov_cond h with ⟨rfl, rfl⟩ | h
  · exact Ka.known_con k
  rcases ov_cond h with ⟨rfl, rfl⟩ | h
  · exact conF_con hM k
  rcases ov_cond h with ⟨rfl, rfl⟩ | h
  · exact conF_con hP k
  rcases ov_cond h with ⟨rfl, rfl⟩ | h
  · exact telF_con k
  rcases ov_cond h with ⟨rfl, rfl⟩ | h
  · exact telF_con k
  rcases ov_cond h with ⟨rfl, rfl⟩ | h
  · exact telF_con k
  rcases ov_cond h with ⟨rfl, rfl⟩ | h
  · exact fgF_con hG k
  rcases ov_cond h with ⟨rfl, rfl⟩ | h
  · exact fV_con k
  rcases ov_cond h with ⟨rfl, rfl⟩ | h
  · exact fK_con k
  cases hm : byMask 6582018229284830197314130720203940682186953655826206317395050528 f with
  | false => rw [hm] at h; cases h
  | true =>
    rw [hm] at h
    cases h
    exact runC_ok mo0_ok 100000 _ _ _ _ _ k
def tk0 (n : Int) (u _kn : Nat) (_xn : List AV) (_kf : Nat) (_xf : List AV) (_f _g _h : Nat → Nat) : AV := .tup [.agg ([{ cells := [.p (.string ⟨#[110]⟩), wZ 1, .p (.string ⟨#[115]⟩), wZ 2, .p (.string ⟨#[112]⟩), wZ 3], esz := 2, gen := 0, row := true, ro := true }, { cells := [wZ 1, .lst 3 [wZ 3, wZ 1, wZ 1, wZ 1, wZ 0, wZ 1, wZ n, .p (.string ⟨#[]⟩), .p (.complex .f64 0 0), wZ 1, wZ n, .p (.string ⟨#[]⟩), .p (.complex .f64 0 0), .p (.complex .f64 0 0), .p (.complex .f64 0 0), wZ 4, wZ 1, wZ 2, wZ 1, wZ 0, wZ 2, wZ 0, .p (.string ⟨#[97]⟩), .p (.complex .f64 0 0), wZ 2, wZ 0, .p (.string ⟨#[97]⟩), .p (.complex .f64 0 0), .p (.complex .f64 0 0), .p (.complex .f64 0 0), wZ 5, wZ 1, wZ 3, wZ 1, wZ 0, wZ 0, wZ 0, .p (.string ⟨#[]⟩), .p (.complex .f64 0 0), wZ 0, wZ 0, .p (.string ⟨#[]⟩), .p (.complex .f64 0 0), .p (.complex .f64 (u) 4607182418800017408), .p (.complex .f64 (u) 4607182418800017408)]], esz := 2, gen := 0, row := false, ro := true }, { cells := [.p (.int .u64 2), .ref 0 0 0 3, .ref 1 0 0 1], esz := 0, gen := 0, row := false, ro := false }, { cells := [.p (.int .u64 0), .p (.slice none 0 0), .p (.slice none 0 0)], esz := 0, gen := 0, row := false, ro := false }, { cells := [.p (.string ⟨#[110]⟩), wZ 1, .p (.string ⟨#[115]⟩), wZ 2, .p (.string ⟨#[112]⟩), wZ 3], esz := 2, gen := 0, row := true, ro := false }, { cells := [.p (.int .u64 2), .ref 4 0 0 3, .p (.slice none 0 0)], esz := 0, gen := 0, row := false, ro := false }].map encB), .agg [.ptr 2 0 0, .p (.int .u64 2), .ptr 2 0 1, .ref 0 0 0 3, .ref 4 0 0 3, .agg [.p (.int .u64 2), .ref 4 0 0 3, .p (.slice none 0 0)], .ptr 5 0 0]]
def ko0 (_n _r : Int) (_u _y _q kp _kn _kf : Nat) (_xn _xf : List AV) (_f _g _h : Nat → Nat) : List (Nat × AV) := [(0, V16 (kp / 8 % 2)), (13, V16 (kp / 16)), (0, V16 (kp / 16 % 2)), (13, V16 (kp / 32)), (0, V16 (kp / 32 % 2)), (13, V16 (kp / 64)), (0, V16 (kp / 64 % 2)), (13, V16 (kp / 128)), (0, V16 (kp / 128 % 2)), (13, V16 (kp / 256)), (0, V16 (kp / 256 % 2)), (13, V16 (kp / 512)), (0, V16 (kp / 512 % 2)), (13, V16 (kp / 1024)), (0, V16 (kp / 1024 % 2)), (13, V16 (kp / 2048)), (0, V16 (kp / 2048 % 2)), (13, V16 (kp / 4096)), (0, V16 (kp / 4096 % 2)), (13, V16 (kp / 8192)), (0, V16 (kp / 8192 % 2)), (13, V16 (kp / 16384)), (0, V16 (kp / 16384 % 2)), (13, V16 (kp / 32768)), (0, V16 (kp / 32768 % 2))]
noncomputable def kn0 (_n _r : Int) (_u _y _q kp _kn _kf : Nat) (_xn _xf : List AV) (_f _g _h : Nat → Nat) : List (AV × AV) := [(N16 (kp / 32768) 1, V16 (kp / 32768 % 2)), (R16 kp 15, V16 (kp / 32768)), (N16 (kp / 16384) 1, V16 (kp / 16384 % 2)), (R16 kp 14, V16 (kp / 16384)), (N16 (kp / 8192) 1, V16 (kp / 8192 % 2)), (R16 kp 13, V16 (kp / 8192)), (N16 (kp / 4096) 1, V16 (kp / 4096 % 2)), (R16 kp 12, V16 (kp / 4096)), (N16 (kp / 2048) 1, V16 (kp / 2048 % 2)), (R16 kp 11, V16 (kp / 2048)), (N16 (kp / 1024) 1, V16 (kp / 1024 % 2)), (R16 kp 10, V16 (kp / 1024)), (N16 (kp / 512) 1, V16 (kp / 512 % 2)), (R16 kp 9, V16 (kp / 512)), (N16 (kp / 256) 1, V16 (kp / 256 % 2)), (R16 kp 8, V16 (kp / 256)), (N16 (kp / 128) 1, V16 (kp / 128 % 2)), (R16 kp 7, V16 (kp / 128)), (N16 (kp / 64) 1, V16 (kp / 64 % 2)), (R16 kp 6, V16 (kp / 64)), (N16 (kp / 32) 1, V16 (kp / 32 % 2)), (R16 kp 5, V16 (kp / 32)), (N16 (kp / 16) 1, V16 (kp / 16 % 2)), (R16 kp 4, V16 (kp / 16)), (N16 (kp / 8) 1, V16 (kp / 8 % 2))]
theorem kh0 {n r : Int} {u y q kp kn kf : Nat} {xn xf : List AV} {f g h : Nat → Nat} (_hkp : kp < 65536) (_h39 : 39 ≤ kf) (_h59 : kf ≤ 59) (_h4 : 4 ≤ kn) (_h12 : kn ≤ 12) : Hold (kn0 n r u y q kp kn kf xn xf f g h) := (hold_eq (n_and1_u16 (by omega) rfl) (hold_eq (n_shr 32768 (by decide) (by omega)) (hold_eq (n_and1_u16 (by omega) rfl) (hold_eq (n_shr 16384 (by decide) (by omega)) (hold_eq (n_and1_u16 (by omega) rfl) (hold_eq (n_shr 8192 (by decide) (by omega)) (hold_eq (n_and1_u16 (by omega) rfl) (hold_eq (n_shr 4096 (by decide) (by omega)) (hold_eq (n_and1_u16 (by omega) rfl) (hold_eq (n_shr 2048 (by decide) (by omega)) (hold_eq (n_and1_u16 (by omega) rfl) (hold_eq (n_shr 1024 (by decide) (by omega)) (hold_eq (n_and1_u16 (by omega) rfl) (hold_eq (n_shr 512 (by decide) (by omega)) (hold_eq (n_and1_u16 (by omega) rfl) (hold_eq (n_shr 256 (by decide) (by omega)) (hold_eq (n_and1_u16 (by omega) rfl) (hold_eq (n_shr 128 (by decide) (by omega)) (hold_eq (n_and1_u16 (by omega) rfl) (hold_eq (n_shr 64 (by decide) (by omega)) (hold_eq (n_and1_u16 (by omega) rfl) (hold_eq (n_shr 32 (by decide) (by omega)) (hold_eq (n_and1_u16 (by omega) rfl) (hold_eq (n_shr 16 (by decide) (by omega)) (hold_eq (n_and1_u16 (by omega) rfl) hold_nil)))))))))))))))))))))))))
def ko1 (_n _r : Int) (_u _y _q kp _kn _kf : Nat) (_xn _xf : List AV) (_f _g _h : Nat → Nat) : List (Nat × AV) := [(0, V16 (kp % 2)), (13, V16 (kp / 2)), (0, V16 (kp / 2 % 2)), (13, V16 (kp / 4)), (0, V16 (kp / 4 % 2)), (13, V16 (kp / 8))]
noncomputable def kn1 (_n _r : Int) (_u _y _q kp _kn _kf : Nat) (_xn _xf : List AV) (_f _g _h : Nat → Nat) : List (AV × AV) := [(R16 kp 3, V16 (kp / 8)), (N16 (kp / 4) 1, V16 (kp / 4 % 2)), (R16 kp 2, V16 (kp / 4)), (N16 (kp / 2) 1, V16 (kp / 2 % 2)), (R16 kp 1, V16 (kp / 2)), (N16 kp 1, V16 (kp % 2))]
theorem kh1 {n r : Int} {u y q kp kn kf : Nat} {xn xf : List AV} {f g h : Nat → Nat} (_hkp : kp < 65536) (_h39 : 39 ≤ kf) (_h59 : kf ≤ 59) (_h4 : 4 ≤ kn) (_h12 : kn ≤ 12) : Hold (kn1 n r u y q kp kn kf xn xf f g h) := (hold_eq (n_shr 8 (by decide) (by omega)) (hold_eq (n_and1_u16 (by omega) rfl) (hold_eq (n_shr 4 (by decide) (by omega)) (hold_eq (n_and1_u16 (by omega) rfl) (hold_eq (n_shr 2 (by decide) (by omega)) (hold_eq (n_and1_u16 (by omega) rfl) hold_nil))))))
def ko2 (n _r : Int) (u _y _q _kp _kn kf : Nat) (_xn xf : List AV) (_f _g _h : Nat → Nat) : List (Nat × AV) := [(110, .ifc 4294967293 (.tup [.lst kf xf, wZ 0])), (14, .ifc 4294967293 (ftR n u)), (85, .ifc 4294967293 (.p (.int .i64 0))), (86, .ifc 4294967293 (.p (.int .i64 0))), (189, .ifc 4294967293 (.tup [.lst 12 (u8A ofE), wZ 0]))]
noncomputable def kn2 (n _r : Int) (u _y _q _kp kn kf : Nat) (xn xf : List AV) (f g h : Nat → Nat) : List (AV × AV) := [(tk0 n u kn xn kf xf f g h, tk0 n u kn xn kf xf f g h), (tk0 n u kn xn kf xf f g h, tk0 n u kn xn kf xf f g h), (outF (unF [.lst 64 (u8A oW)] []), .tup [.lst 12 (u8A ofE), wZ 0]), (outF (fK [stP u] []), .p (.int .i64 0)), (outF (fK [stN n] []), .p (.int .i64 0)), (outF (fgF n u kf xf [.lst kf xf] []), ftR n u), (outF (unF [.lst 64 (u8A (wr g))] []), .tup [.lst kf xf, wZ 0])]
theorem kh2 {n r : Int} {u y q kp kn kf : Nat} {xn xf : List AV} {f g h : Nat → Nat} {i : Nat} (hi : i < 17) (hu : u = ub i) (hUf : outF (unF [.lst 64 (u8A (wr g))] []) = .tup [.lst kf xf, wZ 0]) (hFg : outF (fgF n u kf xf [.lst kf xf] []) = ftR n u) : Hold (kn2 n r u y q kp kn kf xn xf f g h) := (hold_eq rfl (hold_eq rfl (hold_eq hU0 (hold_eq (k_p hi hu) (hold_eq (k_n n) (hold_eq hFg (hold_eq hUf hold_nil)))))))
def ko3 (_n _r : Int) (_u _y _q kp _kn _kf : Nat) (_xn _xf : List AV) (f g h : Nat → Nat) : List (Nat × AV) := [(55, .ifc 4294967293 (.tup [.lst 64 (u8A (wr f)), wZ 0])), (70, .ifc 4294967293 (.tup [.lst 64 (u8A sW), wZ 0])), (70, .ifc 4294967293 (.tup [.lst 64 (u8A (wr h)), wZ 0])), (139, .ifc 4294967293 (.tup [.lst 64 (u8A (wr g)), wZ 0])), (84, V16 (kp)), (0, V16 (kp % 2))]
noncomputable def kn3 (_n _r : Int) (_u y _q kp kn kf : Nat) (xn xf : List AV) (f g h : Nat → Nat) : List (AV × AV) := [(N16 kp 1, V16 (kp % 2)), (R16 kp 0, V16 (kp)), (outF (wrF [.lst kf xf] []), .tup [.lst 64 (u8A (wr g)), wZ 0]), (outF (wrF [.lst 5 (u8A (ylE y))] []), .tup [.lst 64 (u8A (wr h)), wZ 0]), (outF (wrF [.lst 5 (u8A slE)] []), .tup [.lst 64 (u8A sW), wZ 0]), (outF (wrF [.lst kn xn] []), .tup [.lst 64 (u8A (wr f)), wZ 0])]
theorem kh3 {n r : Int} {u y q kp kn kf : Nat} {xn xf : List AV} {f g h : Nat → Nat} (_hkp : kp < 65536) (_h39 : 39 ≤ kf) (_h59 : kf ≤ 59) (_h4 : 4 ≤ kn) (_h12 : kn ≤ 12) (hWn : outF (wrF [.lst kn xn] []) = .tup [.lst 64 (u8A (wr f)), wZ 0]) (hWp : outF (wrF [.lst 5 (u8A (ylE y))] []) = .tup [.lst 64 (u8A (wr h)), wZ 0]) (hWf : outF (wrF [.lst kf xf] []) = .tup [.lst 64 (u8A (wr g)), wZ 0]) : Hold (kn3 n r u y q kp kn kf xn xf f g h) := (hold_eq (n_and1_u16 (by omega) rfl) (hold_eq (n_shr 1 (by decide) (by omega)) (hold_eq hWf (hold_eq hWp (hold_eq hWs (hold_eq hWn hold_nil))))))
def ko4 (_n _r : Int) (_u _y _q kp _kn _kf : Nat) (_xn _xf : List AV) (f g h : Nat → Nat) : List (Nat × AV) := [(55, .ifc 4294967293 (.tup [.lst 64 (u8A (wr f)), wZ 0])), (70, .ifc 4294967293 (.tup [.lst 64 (u8A sW), wZ 0])), (70, .ifc 4294967293 (.tup [.lst 64 (u8A (wr h)), wZ 0])), (139, .ifc 4294967293 (.tup [.lst 64 (u8A (wr g)), wZ 0])), (170, V16 (kp)), (0, V16 (kp % 2))]
noncomputable def kn4 (_n _r : Int) (_u y _q kp kn kf : Nat) (xn xf : List AV) (f g h : Nat → Nat) : List (AV × AV) := [(N16 kp 1, V16 (kp % 2)), (R16 kp 0, V16 (kp)), (outF (wrF [.lst kf xf] []), .tup [.lst 64 (u8A (wr g)), wZ 0]), (outF (wrF [.lst 5 (u8A (ylE y))] []), .tup [.lst 64 (u8A (wr h)), wZ 0]), (outF (wrF [.lst 5 (u8A slE)] []), .tup [.lst 64 (u8A sW), wZ 0]), (outF (wrF [.lst kn xn] []), .tup [.lst 64 (u8A (wr f)), wZ 0])]
theorem kh4 {n r : Int} {u y q kp kn kf : Nat} {xn xf : List AV} {f g h : Nat → Nat} (_hkp : kp < 65536) (_h39 : 39 ≤ kf) (_h59 : kf ≤ 59) (_h4 : 4 ≤ kn) (_h12 : kn ≤ 12) (hWn : outF (wrF [.lst kn xn] []) = .tup [.lst 64 (u8A (wr f)), wZ 0]) (hWp : outF (wrF [.lst 5 (u8A (ylE y))] []) = .tup [.lst 64 (u8A (wr h)), wZ 0]) (hWf : outF (wrF [.lst kf xf] []) = .tup [.lst 64 (u8A (wr g)), wZ 0]) : Hold (kn4 n r u y q kp kn kf xn xf f g h) := (hold_eq (n_and1_u16 (by omega) rfl) (hold_eq (n_shr 1 (by decide) (by omega)) (hold_eq hWf (hold_eq hWp (hold_eq hWs (hold_eq hWn hold_nil))))))
end Kp
end Be
end Go.Proofs.YtlemialjfnbchaaGreat
