/- What is taken as told: contracts; whose arguments are frozen. -/
import Derived.Test.YtlemialjfnbchaaGreatStU
import Derived.Test.YtlemialjfnbchaaGreatVmTh
import Derived.Test.YtlemialjfnbchaaGreatVmRl

namespace Go.Proofs.YtlemialjfnbchaaGreat
namespace Ka
open Go Go.Vm
set_option maxRecDepth 100000
noncomputable def mKa : Vm.Mode := ⟨byMask 7957186959657307671421384975448360895745530569382035193930731009000697590931296519979008, fun f => cond (Nat.beq f 186) (some sumV) (none)⟩
theorem mKa_ok (f : FuncId) (K : List AV → List Blk → Option (AV × List Blk)) (h : mKa.ov f = some K) (args : List AV) (hp : List Blk) (r : AV) (hp' : List Blk) (k : K args hp = some (r, hp')) : FnOk Tryz.prog f args hp r hp' := by
  rcases ov_cond h with ⟨rfl, rfl⟩ | h
  · exact Sm.su_con k
  cases h
abbrev wi (n : Int) : AV := .p (.int .i64 n)
end Ka
end Go.Proofs.YtlemialjfnbchaaGreat

namespace Go.Proofs.YtlemialjfnbchaaGreat
namespace Ka
open Go Go.Vm
set_option maxRecDepth 100000
noncomputable def KaR31_0 : List Row := [
⟨[wi 5], .lit 1 [.lst 3 [wi 1, wi 5, .p (.string ⟨#[]⟩), .p (.complex .f64 0 0), wi 2, wi 0, .p (.string ⟨#[97]⟩), .p (.complex .f64 0 0), wi 3, wi 0, .p (.string ⟨#[]⟩), .p (.complex .f64 4617315517961601024 4607182418800017408)]], []⟩]
theorem KaR31_0_ok : ∀ q ∈ KaR31_0, FnOk Tryz.prog 31 q.args [] q.r q.hp := rows_run tok_nil mKa_ok (n := 100000) (show KaR31_0.map (fun q => Vm.runT Tryz.prog [] mKa 100000 31 q.args []) = KaR31_0.map (fun q => some (q.r, q.hp)) by kernel_rfl)
noncomputable def KaR80_0 : List Row := [
⟨[wi 20, .lst 1 [wi 2, wi 1]], .ref 0 0 0 1, [{ cells := [wi 3, wi 17], esz := 2, gen := 0, row := true, ro := false }]⟩,
⟨[wi 4, .lst 1 [wi 2, wi 1]], .ref 0 0 0 1, [{ cells := [wi 3, wi 1], esz := 2, gen := 0, row := true, ro := false }]⟩]
theorem KaR80_0_ok : ∀ q ∈ KaR80_0, FnOk Tryz.prog 80 q.args [] q.r q.hp := rows_run tok_nil mKa_ok (n := 100000) (show KaR80_0.map (fun q => Vm.runT Tryz.prog [] mKa 100000 80 q.args []) = KaR80_0.map (fun q => some (q.r, q.hp)) by kernel_rfl)
noncomputable def KaR82_0 : List Row := [
⟨[.agg [.p (.int .u64 1), .lst 3 [.p (.string ⟨#[110]⟩), wi 1, .p (.string ⟨#[115]⟩), wi 2, .p (.string ⟨#[112]⟩), wi 3], .p (.slice none 0 0)]], .p (.slice none 0 0), []⟩,
⟨[.agg [.p (.int .u64 2), .lst 3 [.p (.string ⟨#[110]⟩), wi 1, .p (.string ⟨#[115]⟩), wi 2, .p (.string ⟨#[112]⟩), wi 3], .lst 1 [wi 1, .lst 3 [wi 3, wi 1, wi 1, wi 1, wi 0, wi 1, wi 5, .p (.string ⟨#[]⟩), .p (.complex .f64 0 0), wi 1, wi 5, .p (.string ⟨#[]⟩), .p (.complex .f64 0 0), .p (.complex .f64 0 0), .p (.complex .f64 0 0), wi 4, wi 1, wi 2, wi 1, wi 0, wi 2, wi 0, .p (.string ⟨#[97]⟩), .p (.complex .f64 0 0), wi 2, wi 0, .p (.string ⟨#[97]⟩), .p (.complex .f64 0 0), .p (.complex .f64 0 0), .p (.complex .f64 0 0), wi 5, wi 1, wi 3, wi 1, wi 0, wi 0, wi 0, .p (.string ⟨#[]⟩), .p (.complex .f64 0 0), wi 0, wi 0, .p (.string ⟨#[]⟩), .p (.complex .f64 0 0), .p (.complex .f64 4617315517961601024 4607182418800017408), .p (.complex .f64 4617315517961601024 4607182418800017408)]]]], .ref 0 0 0 3, [{ cells := [wi 3, wi 1, wi 4, wi 1, wi 5, wi 1], esz := 2, gen := 0, row := true, ro := false }]⟩]
theorem KaR82_0_ok : ∀ q ∈ KaR82_0, FnOk Tryz.prog 82 q.args [] q.r q.hp := rows_run tok_nil mKa_ok (n := 100000) (show KaR82_0.map (fun q => Vm.runT Tryz.prog [] mKa 100000 82 q.args []) = KaR82_0.map (fun q => some (q.r, q.hp)) by kernel_rfl)
noncomputable def KaR87_0 : List Row := [
⟨[.lst 1 [wi 3, wi 17], wi 1], .tup [.agg [wi 3, wi 1], .ref 0 0 0 1, wi 0], [{ cells := [wi 4, wi 16], esz := 2, gen := 0, row := true, ro := false }]⟩,
⟨[.lst 1 [wi 4, wi 16], wi 1], .tup [.agg [wi 4, wi 1], .ref 0 0 0 1, wi 0], [{ cells := [wi 5, wi 15], esz := 2, gen := 0, row := true, ro := false }]⟩,
⟨[.lst 1 [wi 5, wi 15], wi 1], .tup [.agg [wi 5, wi 1], .ref 0 0 0 1, wi 0], [{ cells := [wi 6, wi 14], esz := 2, gen := 0, row := true, ro := false }]⟩,
⟨[.lst 1 [wi 6, wi 14], wi 1], .tup [.agg [wi 6, wi 1], .ref 0 0 0 1, wi 0], [{ cells := [wi 7, wi 13], esz := 2, gen := 0, row := true, ro := false }]⟩,
⟨[.lst 1 [wi 3, wi 1], wi 1], .tup [.agg [wi 3, wi 1], .ref 0 0 0 0, wi 0], [{ cells := [wi 0, wi 0], esz := 2, gen := 0, row := true, ro := false }]⟩,
⟨[.lst 0 [], wi 1], .tup [.agg [wi 0, wi 0], .p (.slice none 0 0), wi 9], []⟩]
theorem KaR87_0_ok : ∀ q ∈ KaR87_0, FnOk Tryz.prog 87 q.args [] q.r q.hp := rows_run tok_nil mKa_ok (n := 100000) (show KaR87_0.map (fun q => Vm.runT Tryz.prog [] mKa 100000 87 q.args []) = KaR87_0.map (fun q => some (q.r, q.hp)) by kernel_rfl)
noncomputable def KaR88_0 : List Row := [
⟨[wi 12], wi 1, []⟩,
⟨[wi 4], wi 1, []⟩,
⟨[wi 5], wi 1, []⟩,
⟨[wi 39], wi 1, []⟩]
theorem KaR88_0_ok : ∀ q ∈ KaR88_0, FnOk Tryz.prog 88 q.args [] q.r q.hp := rows_run tok_nil mKa_ok (n := 100000) (show KaR88_0.map (fun q => Vm.runT Tryz.prog [] mKa 100000 88 q.args []) = KaR88_0.map (fun q => some (q.r, q.hp)) by kernel_rfl)
noncomputable def KaR95_0 : List Row := [
⟨[.agg [.p (.int .u64 2), .lst 3 [.p (.string ⟨#[110]⟩), wi 1, .p (.string ⟨#[115]⟩), wi 2, .p (.string ⟨#[112]⟩), wi 3], .lst 1 [wi 1, .lst 3 [wi 3, wi 1, wi 1, wi 1, wi 0, wi 1, wi 5, .p (.string ⟨#[]⟩), .p (.complex .f64 0 0), wi 1, wi 5, .p (.string ⟨#[]⟩), .p (.complex .f64 0 0), .p (.complex .f64 0 0), .p (.complex .f64 0 0), wi 4, wi 1, wi 2, wi 1, wi 0, wi 2, wi 0, .p (.string ⟨#[97]⟩), .p (.complex .f64 0 0), wi 2, wi 0, .p (.string ⟨#[97]⟩), .p (.complex .f64 0 0), .p (.complex .f64 0 0), .p (.complex .f64 0 0), wi 5, wi 1, wi 3, wi 1, wi 0, wi 0, wi 0, .p (.string ⟨#[]⟩), .p (.complex .f64 0 0), wi 0, wi 0, .p (.string ⟨#[]⟩), .p (.complex .f64 0 0), .p (.complex .f64 4617315517961601024 4607182418800017408), .p (.complex .f64 4617315517961601024 4607182418800017408)]]]], .agg [.p (.int .u64 2), .ref 0 0 0 3, .ref 1 0 0 1], [{ cells := [.p (.string ⟨#[110]⟩), wi 1, .p (.string ⟨#[115]⟩), wi 2, .p (.string ⟨#[112]⟩), wi 3], esz := 2, gen := 0, row := true, ro := false }, { cells := [wi 1, .lst 3 [wi 3, wi 1, wi 1, wi 1, wi 0, wi 1, wi 5, .p (.string ⟨#[]⟩), .p (.complex .f64 0 0), wi 1, wi 5, .p (.string ⟨#[]⟩), .p (.complex .f64 0 0), .p (.complex .f64 0 0), .p (.complex .f64 0 0), wi 4, wi 1, wi 2, wi 1, wi 0, wi 2, wi 0, .p (.string ⟨#[97]⟩), .p (.complex .f64 0 0), wi 2, wi 0, .p (.string ⟨#[97]⟩), .p (.complex .f64 0 0), .p (.complex .f64 0 0), .p (.complex .f64 0 0), wi 5, wi 1, wi 3, wi 1, wi 0, wi 0, wi 0, .p (.string ⟨#[]⟩), .p (.complex .f64 0 0), wi 0, wi 0, .p (.string ⟨#[]⟩), .p (.complex .f64 0 0), .p (.complex .f64 4617315517961601024 4607182418800017408), .p (.complex .f64 4617315517961601024 4607182418800017408)]], esz := 2, gen := 0, row := false, ro := false }]⟩]
theorem KaR95_0_ok : ∀ q ∈ KaR95_0, FnOk Tryz.prog 95 q.args [] q.r q.hp := rows_run tok_nil mKa_ok (n := 100000) (show KaR95_0.map (fun q => Vm.runT Tryz.prog [] mKa 100000 95 q.args []) = KaR95_0.map (fun q => some (q.r, q.hp)) by kernel_rfl)
noncomputable def KaR153_0 : List Row := [
⟨[.agg [.p (.int .u64 1), wi 2, wi 1]], .tup [.ref 0 1 0 64, wi 0], [{ cells := (u8A [246, 3, 158, 86, 1, 2, 1, 0, 0, 0, 0, 0, 0, 0, 0, 0, 0, 0, 0, 0, 0, 0, 0, 0, 0, 0, 0, 0, 0, 0, 0, 0, 0, 0, 0, 0, 0, 0, 0, 0, 0, 0, 0, 0, 0, 0, 0, 0, 0, 0, 0, 0, 0, 0, 0, 0, 0, 0, 0, 0, 0, 0, 0, 0]), esz := 1, gen := 1, row := true, ro := false }]⟩,
⟨[.agg [.p (.int .u64 2), wi 6, wi 1]], .tup [.ref 0 1 0 64, wi 0], [{ cells := (u8A [163, 135, 218, 172, 2, 6, 1, 0, 0, 0, 0, 0, 0, 0, 0, 0, 0, 0, 0, 0, 0, 0, 0, 0, 0, 0, 0, 0, 0, 0, 0, 0, 0, 0, 0, 0, 0, 0, 0, 0, 0, 0, 0, 0, 0, 0, 0, 0, 0, 0, 0, 0, 0, 0, 0, 0, 0, 0, 0, 0, 0, 0, 0, 0]), esz := 1, gen := 1, row := true, ro := false }]⟩,
⟨[.agg [.p (.int .u64 0), wi 0, wi 0]], .tup [.p (.slice none 0 0), wi 1], []⟩]
theorem KaR153_0_ok : ∀ q ∈ KaR153_0, FnOk Tryz.prog 153 q.args [] q.r q.hp := rows_run tok_nil mKa_ok (n := 100000) (show KaR153_0.map (fun q => Vm.runT Tryz.prog [] mKa 100000 153 q.args []) = KaR153_0.map (fun q => some (q.r, q.hp)) by kernel_rfl)
noncomputable def KaR165_0 : List Row := [
⟨[wi 1, wi 1], wi 1, []⟩,
⟨[wi 1, wi 4], wi 1, []⟩,
⟨[wi 1, wi 0], wi 0, []⟩]
theorem KaR165_0_ok : ∀ q ∈ KaR165_0, FnOk Tryz.prog 165 q.args [] q.r q.hp := rows_run tok_nil mKa_ok (n := 100000) (show KaR165_0.map (fun q => Vm.runT Tryz.prog [] mKa 100000 165 q.args []) = KaR165_0.map (fun q => some (q.r, q.hp)) by kernel_rfl)
noncomputable def KaR171_0 : List Row := [
⟨[.agg [wi 1, wi 5, .p (.string ⟨#[]⟩), .p (.complex .f64 0 0)], .agg [wi 1, wi 5, .p (.string ⟨#[]⟩), .p (.complex .f64 0 0)]], wi 0, []⟩,
⟨[.agg [wi 2, wi 0, .p (.string ⟨#[97]⟩), .p (.complex .f64 0 0)], .agg [wi 2, wi 0, .p (.string ⟨#[97]⟩), .p (.complex .f64 0 0)]], wi 0, []⟩]
theorem KaR171_0_ok : ∀ q ∈ KaR171_0, FnOk Tryz.prog 171 q.args [] q.r q.hp := rows_run tok_nil mKa_ok (n := 100000) (show KaR171_0.map (fun q => Vm.runT Tryz.prog [] mKa 100000 171 q.args []) = KaR171_0.map (fun q => some (q.r, q.hp)) by kernel_rfl)
noncomputable def KaR239_0 : List Row := [
⟨[.lst 0 [], .p (.string ⟨#[110]⟩)], .tup [wi 0, .p (.bool false)], []⟩,
⟨[.lst 1 [.p (.string ⟨#[110]⟩), wi 1], .p (.string ⟨#[115]⟩)], .tup [wi 0, .p (.bool false)], []⟩,
⟨[.lst 2 [.p (.string ⟨#[110]⟩), wi 1, .p (.string ⟨#[115]⟩), wi 2], .p (.string ⟨#[112]⟩)], .tup [wi 0, .p (.bool false)], []⟩]
theorem KaR239_0_ok : ∀ q ∈ KaR239_0, FnOk Tryz.prog 239 q.args [] q.r q.hp := rows_run tok_nil mKa_ok (n := 100000) (show KaR239_0.map (fun q => Vm.runT Tryz.prog [] mKa 100000 239 q.args []) = KaR239_0.map (fun q => some (q.r, q.hp)) by kernel_rfl)
noncomputable def KaR273_0 : List Row := [
⟨[.p (.complex .f64 0 0)], .p (.bool true), []⟩,
⟨[.p (.complex .f64 4617315517961601024 4607182418800017408)], .p (.bool true), []⟩]
theorem KaR273_0_ok : ∀ q ∈ KaR273_0, FnOk Tryz.prog 273 q.args [] q.r q.hp := rows_run tok_nil mKa_ok (n := 100000) (show KaR273_0.map (fun q => Vm.runT Tryz.prog [] mKa 100000 273 q.args []) = KaR273_0.map (fun q => some (q.r, q.hp)) by kernel_rfl)
noncomputable def KaTab0 : Tab := [(31, KaR31_0), (80, KaR80_0), (82, KaR82_0), (87, KaR87_0), (88, KaR88_0), (95, KaR95_0), (153, KaR153_0), (165, KaR165_0), (171, KaR171_0), (239, KaR239_0), (273, KaR273_0)]
theorem KaTab0_ok : TOk Tryz.prog KaTab0 := (tok_cons KaR31_0_ok (tok_cons KaR80_0_ok (tok_cons KaR82_0_ok (tok_cons KaR87_0_ok (tok_cons KaR88_0_ok (tok_cons KaR95_0_ok (tok_cons KaR153_0_ok (tok_cons KaR165_0_ok (tok_cons KaR171_0_ok (tok_cons KaR239_0_ok (tok_cons KaR273_0_ok tok_nil)))))))))))
noncomputable def KaR121_0 : List Row := [
⟨[.lst 12 (u8A [1, 3, 1, 110, 1, 1, 115, 2, 1, 112, 3, 0])], .tup [.ref 0 1 0 64, wi 0], [{ cells := (u8A [162, 137, 23, 116, 12, 1, 3, 1, 110, 1, 1, 115, 2, 1, 112, 3, 0, 0, 0, 0, 0, 0, 0, 0, 0, 0, 0, 0, 0, 0, 0, 0, 0, 0, 0, 0, 0, 0, 0, 0, 0, 0, 0, 0, 0, 0, 0, 0, 0, 0, 0, 0, 0, 0, 0, 0, 0, 0, 0, 0, 0, 0, 0, 0]), esz := 1, gen := 1, row := true, ro := false }]⟩,
⟨[.lst 4 (u8A [1, 1, 1, 10])], .tup [.ref 0 1 0 64, wi 0], [{ cells := (u8A [166, 222, 29, 117, 4, 1, 1, 1, 10, 0, 0, 0, 0, 0, 0, 0, 0, 0, 0, 0, 0, 0, 0, 0, 0, 0, 0, 0, 0, 0, 0, 0, 0, 0, 0, 0, 0, 0, 0, 0, 0, 0, 0, 0, 0, 0, 0, 0, 0, 0, 0, 0, 0, 0, 0, 0, 0, 0, 0, 0, 0, 0, 0, 0]), esz := 1, gen := 1, row := true, ro := false }]⟩,
⟨[.lst 5 (u8A [1, 1, 1, 1, 97])], .tup [.ref 0 1 0 64, wi 0], [{ cells := (u8A [51, 215, 91, 33, 5, 1, 1, 1, 1, 97, 0, 0, 0, 0, 0, 0, 0, 0, 0, 0, 0, 0, 0, 0, 0, 0, 0, 0, 0, 0, 0, 0, 0, 0, 0, 0, 0, 0, 0, 0, 0, 0, 0, 0, 0, 0, 0, 0, 0, 0, 0, 0, 0, 0, 0, 0, 0, 0, 0, 0, 0, 0, 0, 0]), esz := 1, gen := 1, row := true, ro := false }]⟩,
⟨[.lst 5 (u8A [1, 1, 1, 10, 2])], .tup [.ref 0 1 0 64, wi 0], [{ cells := (u8A [9, 54, 201, 251, 5, 1, 1, 1, 10, 2, 0, 0, 0, 0, 0, 0, 0, 0, 0, 0, 0, 0, 0, 0, 0, 0, 0, 0, 0, 0, 0, 0, 0, 0, 0, 0, 0, 0, 0, 0, 0, 0, 0, 0, 0, 0, 0, 0, 0, 0, 0, 0, 0, 0, 0, 0, 0, 0, 0, 0, 0, 0, 0, 0]), esz := 1, gen := 1, row := true, ro := false }]⟩,
⟨[.lst 39 (u8A [2, 3, 1, 110, 1, 1, 115, 2, 1, 112, 3, 1, 1, 3, 3, 1, 1, 1, 0, 10, 10, 4, 1, 2, 1, 0, 1, 97, 1, 97, 5, 1, 3, 1, 0, 10, 2, 10, 2])], .tup [.ref 0 1 0 64, wi 0], [{ cells := (u8A [120, 97, 188, 147, 39, 2, 3, 1, 110, 1, 1, 115, 2, 1, 112, 3, 1, 1, 3, 3, 1, 1, 1, 0, 10, 10, 4, 1, 2, 1, 0, 1, 97, 1, 97, 5, 1, 3, 1, 0, 10, 2, 10, 2, 0, 0, 0, 0, 0, 0, 0, 0, 0, 0, 0, 0, 0, 0, 0, 0, 0, 0, 0, 0]), esz := 1, gen := 1, row := true, ro := false }]⟩]
theorem KaR121_0_ok : ∀ q ∈ KaR121_0, FnOk Tryz.prog 121 q.args [] q.r q.hp := rows_run KaTab0_ok mKa_ok (n := 100000) (show KaR121_0.map (fun q => Vm.runT Tryz.prog KaTab0 mKa 100000 121 q.args []) = KaR121_0.map (fun q => some (q.r, q.hp)) by kernel_rfl)
noncomputable def KaR133_0 : List Row := [
⟨[.lst 64 (u8A [120, 97, 188, 147, 39, 2, 3, 1, 110, 1, 1, 115, 2, 1, 112, 3, 1, 1, 3, 3, 1, 1, 1, 0, 10, 10, 4, 1, 2, 1, 0, 1, 97, 1, 97, 5, 1, 3, 1, 0, 10, 2, 10, 2, 0, 0, 0, 0, 0, 0, 0, 0, 0, 0, 0, 0, 0, 0, 0, 0, 0, 0, 0, 0])], .tup [.ref 0 0 0 39, wi 0], [{ cells := (u8A [2, 3, 1, 110, 1, 1, 115, 2, 1, 112, 3, 1, 1, 3, 3, 1, 1, 1, 0, 10, 10, 4, 1, 2, 1, 0, 1, 97, 1, 97, 5, 1, 3, 1, 0, 10, 2, 10, 2]), esz := 1, gen := 0, row := true, ro := false }]⟩,
⟨[.lst 64 (u8A [162, 137, 23, 116, 12, 1, 3, 1, 110, 1, 1, 115, 2, 1, 112, 3, 0, 0, 0, 0, 0, 0, 0, 0, 0, 0, 0, 0, 0, 0, 0, 0, 0, 0, 0, 0, 0, 0, 0, 0, 0, 0, 0, 0, 0, 0, 0, 0, 0, 0, 0, 0, 0, 0, 0, 0, 0, 0, 0, 0, 0, 0, 0, 0])], .tup [.ref 0 0 0 12, wi 0], [{ cells := (u8A [1, 3, 1, 110, 1, 1, 115, 2, 1, 112, 3, 0]), esz := 1, gen := 0, row := true, ro := false }]⟩]
theorem KaR133_0_ok : ∀ q ∈ KaR133_0, FnOk Tryz.prog 133 q.args [] q.r q.hp := rows_run KaTab0_ok mKa_ok (n := 100000) (show KaR133_0.map (fun q => Vm.runT Tryz.prog KaTab0 mKa 100000 133 q.args []) = KaR133_0.map (fun q => some (q.r, q.hp)) by kernel_rfl)
noncomputable def KaR203_0 : List Row := [
⟨[.lst 3 [.p (.string ⟨#[110]⟩), wi 1, .p (.string ⟨#[115]⟩), wi 2, .p (.string ⟨#[112]⟩), wi 3]], wi 0, []⟩]
theorem KaR203_0_ok : ∀ q ∈ KaR203_0, FnOk Tryz.prog 203 q.args [] q.r q.hp := rows_run KaTab0_ok mKa_ok (n := 100000) (show KaR203_0.map (fun q => Vm.runT Tryz.prog KaTab0 mKa 100000 203 q.args []) = KaR203_0.map (fun q => some (q.r, q.hp)) by kernel_rfl)
noncomputable def KaR221_0 : List Row := [
⟨[.agg [wi 1, wi 5, .p (.string ⟨#[]⟩), .p (.complex .f64 0 0)]], wi 0, []⟩,
⟨[.agg [wi 2, wi 0, .p (.string ⟨#[97]⟩), .p (.complex .f64 0 0)]], wi 0, []⟩,
⟨[.agg [wi 3, wi 0, .p (.string ⟨#[]⟩), .p (.complex .f64 4617315517961601024 4607182418800017408)]], wi 0, []⟩]
theorem KaR221_0_ok : ∀ q ∈ KaR221_0, FnOk Tryz.prog 221 q.args [] q.r q.hp := rows_run KaTab0_ok mKa_ok (n := 100000) (show KaR221_0.map (fun q => Vm.runT Tryz.prog KaTab0 mKa 100000 221 q.args []) = KaR221_0.map (fun q => some (q.r, q.hp)) by kernel_rfl)
noncomputable def KaR292_0 : List Row := [
⟨[.lst 1 [.p (.int .u64 1)], wi 1], .tup [.ref 0 0 0 1, wi 0], [{ cells := [.p (.int .u8 1)], esz := 1, gen := 0, row := true, ro := false }]⟩,
⟨[.lst 1 [.p (.int .u64 10)], wi 4], .tup [.ref 0 0 0 1, wi 0], [{ cells := [.p (.int .u8 10)], esz := 1, gen := 0, row := true, ro := false }]⟩,
⟨[.lst 1 [.p (.int .u64 0)], wi 0], .tup [.ref 0 0 0 0, wi 0], [{ cells := [], esz := 1, gen := 0, row := true, ro := false }]⟩]
theorem KaR292_0_ok : ∀ q ∈ KaR292_0, FnOk Tryz.prog 292 q.args [] q.r q.hp := rows_run KaTab0_ok mKa_ok (n := 100000) (show KaR292_0.map (fun q => Vm.runT Tryz.prog KaTab0 mKa 100000 292 q.args []) = KaR292_0.map (fun q => some (q.r, q.hp)) by kernel_rfl)
noncomputable def KaTab1 : Tab := [(31, KaR31_0), (80, KaR80_0), (82, KaR82_0), (87, KaR87_0), (88, KaR88_0), (95, KaR95_0), (153, KaR153_0), (165, KaR165_0), (171, KaR171_0), (239, KaR239_0), (273, KaR273_0), (121, KaR121_0), (133, KaR133_0), (203, KaR203_0), (221, KaR221_0), (292, KaR292_0)]
theorem KaTab1_ok : TOk Tryz.prog KaTab1 := (tok_cons KaR31_0_ok (tok_cons KaR80_0_ok (tok_cons KaR82_0_ok (tok_cons KaR87_0_ok (tok_cons KaR88_0_ok (tok_cons KaR95_0_ok (tok_cons KaR153_0_ok (tok_cons KaR165_0_ok (tok_cons KaR171_0_ok (tok_cons KaR239_0_ok (tok_cons KaR273_0_ok (tok_cons KaR121_0_ok (tok_cons KaR133_0_ok (tok_cons KaR203_0_ok (tok_cons KaR221_0_ok (tok_cons KaR292_0_ok tok_nil))))))))))))))))
noncomputable def KaR86_0 : List Row := [
⟨[.agg [.p (.int .u64 1), .lst 3 [.p (.string ⟨#[110]⟩), wi 1, .p (.string ⟨#[115]⟩), wi 2, .p (.string ⟨#[112]⟩), wi 3], .p (.slice none 0 0)]], .tup [.ref 0 1 0 12, wi 0], [{ cells := (u8A [1, 3, 1, 110, 1, 1, 115, 2, 1, 112, 3, 0]), esz := 1, gen := 1, row := true, ro := false }]⟩,
⟨[.agg [.p (.int .u64 2), .lst 3 [.p (.string ⟨#[110]⟩), wi 1, .p (.string ⟨#[115]⟩), wi 2, .p (.string ⟨#[112]⟩), wi 3], .lst 1 [wi 1, .lst 3 [wi 3, wi 1, wi 1, wi 1, wi 0, wi 1, wi 5, .p (.string ⟨#[]⟩), .p (.complex .f64 0 0), wi 1, wi 5, .p (.string ⟨#[]⟩), .p (.complex .f64 0 0), .p (.complex .f64 0 0), .p (.complex .f64 0 0), wi 4, wi 1, wi 2, wi 1, wi 0, wi 2, wi 0, .p (.string ⟨#[97]⟩), .p (.complex .f64 0 0), wi 2, wi 0, .p (.string ⟨#[97]⟩), .p (.complex .f64 0 0), .p (.complex .f64 0 0), .p (.complex .f64 0 0), wi 5, wi 1, wi 3, wi 1, wi 0, wi 0, wi 0, .p (.string ⟨#[]⟩), .p (.complex .f64 0 0), wi 0, wi 0, .p (.string ⟨#[]⟩), .p (.complex .f64 0 0), .p (.complex .f64 4617315517961601024 4607182418800017408), .p (.complex .f64 4617315517961601024 4607182418800017408)]]]], .tup [.ref 0 1 0 39, wi 0], [{ cells := (u8A [2, 3, 1, 110, 1, 1, 115, 2, 1, 112, 3, 1, 1, 3, 3, 1, 1, 1, 0, 10, 10, 4, 1, 2, 1, 0, 1, 97, 1, 97, 5, 1, 3, 1, 0, 10, 2, 10, 2]), esz := 1, gen := 1, row := true, ro := false }]⟩]
theorem KaR86_0_ok : ∀ q ∈ KaR86_0, FnOk Tryz.prog 86 q.args [] q.r q.hp := rows_run KaTab1_ok mKa_ok (n := 100000) (show KaR86_0.map (fun q => Vm.runT Tryz.prog KaTab1 mKa 100000 86 q.args []) = KaR86_0.map (fun q => some (q.r, q.hp)) by kernel_rfl)
noncomputable def KaR168_0 : List Row := [
⟨[.lst 1 [wi 1, wi 5, .p (.string ⟨#[]⟩), .p (.complex .f64 0 0)], wi 1], wi 0, []⟩,
⟨[.lst 1 [wi 2, wi 0, .p (.string ⟨#[97]⟩), .p (.complex .f64 0 0)], wi 2], wi 0, []⟩,
⟨[.lst 1 [wi 3, wi 0, .p (.string ⟨#[]⟩), .p (.complex .f64 4617315517961601024 4607182418800017408)], wi 3], wi 0, []⟩]
theorem KaR168_0_ok : ∀ q ∈ KaR168_0, FnOk Tryz.prog 168 q.args [] q.r q.hp := rows_run KaTab1_ok mKa_ok (n := 100000) (show KaR168_0.map (fun q => Vm.runT Tryz.prog KaTab1 mKa 100000 168 q.args []) = KaR168_0.map (fun q => some (q.r, q.hp)) by kernel_rfl)
noncomputable def KaTab2 : Tab := [(31, KaR31_0), (80, KaR80_0), (82, KaR82_0), (87, KaR87_0), (88, KaR88_0), (95, KaR95_0), (153, KaR153_0), (165, KaR165_0), (171, KaR171_0), (239, KaR239_0), (273, KaR273_0), (121, KaR121_0), (133, KaR133_0), (203, KaR203_0), (221, KaR221_0), (292, KaR292_0), (86, KaR86_0), (168, KaR168_0)]
theorem KaTab2_ok : TOk Tryz.prog KaTab2 := (tok_cons KaR31_0_ok (tok_cons KaR80_0_ok (tok_cons KaR82_0_ok (tok_cons KaR87_0_ok (tok_cons KaR88_0_ok (tok_cons KaR95_0_ok (tok_cons KaR153_0_ok (tok_cons KaR165_0_ok (tok_cons KaR171_0_ok (tok_cons KaR239_0_ok (tok_cons KaR273_0_ok (tok_cons KaR121_0_ok (tok_cons KaR133_0_ok (tok_cons KaR203_0_ok (tok_cons KaR221_0_ok (tok_cons KaR292_0_ok (tok_cons KaR86_0_ok (tok_cons KaR168_0_ok tok_nil))))))))))))))))))
noncomputable def KaR104_0 : List Row := [
⟨[.lst 1 [wi 1, wi 5, .p (.string ⟨#[]⟩), .p (.complex .f64 0 0)], wi 1], .tup [.agg [wi 1, wi 1, wi 0, wi 1, wi 5, .p (.string ⟨#[]⟩), .p (.complex .f64 0 0), wi 1, wi 5, .p (.string ⟨#[]⟩), .p (.complex .f64 0 0), .p (.complex .f64 0 0), .p (.complex .f64 0 0)], wi 0], []⟩,
⟨[.lst 1 [wi 2, wi 0, .p (.string ⟨#[97]⟩), .p (.complex .f64 0 0)], wi 2], .tup [.agg [wi 2, wi 1, wi 0, wi 2, wi 0, .p (.string ⟨#[97]⟩), .p (.complex .f64 0 0), wi 2, wi 0, .p (.string ⟨#[97]⟩), .p (.complex .f64 0 0), .p (.complex .f64 0 0), .p (.complex .f64 0 0)], wi 0], []⟩,
⟨[.lst 1 [wi 3, wi 0, .p (.string ⟨#[]⟩), .p (.complex .f64 4617315517961601024 4607182418800017408)], wi 3], .tup [.agg [wi 3, wi 1, wi 0, wi 0, wi 0, .p (.string ⟨#[]⟩), .p (.complex .f64 0 0), wi 0, wi 0, .p (.string ⟨#[]⟩), .p (.complex .f64 0 0), .p (.complex .f64 4617315517961601024 4607182418800017408), .p (.complex .f64 4617315517961601024 4607182418800017408)], wi 0], []⟩]
theorem KaR104_0_ok : ∀ q ∈ KaR104_0, FnOk Tryz.prog 104 q.args [] q.r q.hp := rows_run KaTab2_ok mKa_ok (n := 100000) (show KaR104_0.map (fun q => Vm.runT Tryz.prog KaTab2 mKa 100000 104 q.args []) = KaR104_0.map (fun q => some (q.r, q.hp)) by kernel_rfl)
noncomputable def KaR205_0 : List Row := [
⟨[.lst 1 [wi 1, wi 5, .p (.string ⟨#[]⟩), .p (.complex .f64 0 0)], wi 1], .tup [.lst 4 (u8A [1, 1, 1, 10]), wi 1, wi 0], []⟩,
⟨[.lst 1 [wi 2, wi 0, .p (.string ⟨#[97]⟩), .p (.complex .f64 0 0)], wi 2], .tup [.lst 5 (u8A [1, 1, 1, 1, 97]), wi 1, wi 0], []⟩,
⟨[.lst 1 [wi 3, wi 0, .p (.string ⟨#[]⟩), .p (.complex .f64 4617315517961601024 4607182418800017408)], wi 3], .tup [.lst 5 (u8A [1, 1, 1, 10, 2]), wi 1, wi 0], []⟩]
theorem KaR205_0_ok : ∀ q ∈ KaR205_0, FnOk Tryz.prog 205 q.args [] q.r q.hp := rows_frz KaTab2_ok mKa_ok (n := 100000) (show KaR205_0.map (fun q => Vm.frzR (Vm.runT Tryz.prog KaTab2 mKa 100000 205 q.args [])) = KaR205_0.map (fun q => some (q.r, q.hp)) by kernel_rfl)
noncomputable def KaTab3 : Tab := [(31, KaR31_0), (80, KaR80_0), (82, KaR82_0), (87, KaR87_0), (88, KaR88_0), (95, KaR95_0), (153, KaR153_0), (165, KaR165_0), (171, KaR171_0), (239, KaR239_0), (273, KaR273_0), (121, KaR121_0), (133, KaR133_0), (203, KaR203_0), (221, KaR221_0), (292, KaR292_0), (86, KaR86_0), (168, KaR168_0), (104, KaR104_0), (205, KaR205_0)]
theorem KaTab3_ok : TOk Tryz.prog KaTab3 := (tok_cons KaR31_0_ok (tok_cons KaR80_0_ok (tok_cons KaR82_0_ok (tok_cons KaR87_0_ok (tok_cons KaR88_0_ok (tok_cons KaR95_0_ok (tok_cons KaR153_0_ok (tok_cons KaR165_0_ok (tok_cons KaR171_0_ok (tok_cons KaR239_0_ok (tok_cons KaR273_0_ok (tok_cons KaR121_0_ok (tok_cons KaR133_0_ok (tok_cons KaR203_0_ok (tok_cons KaR221_0_ok (tok_cons KaR292_0_ok (tok_cons KaR86_0_ok (tok_cons KaR168_0_ok (tok_cons KaR104_0_ok (tok_cons KaR205_0_ok tok_nil))))))))))))))))))))
noncomputable def KaR83_0 : List Row := [
⟨[.lst 3 [.p (.string ⟨#[110]⟩), wi 1, .p (.string ⟨#[115]⟩), wi 2, .p (.string ⟨#[112]⟩), wi 3], .lst 1 [.lst 3 [wi 1, wi 5, .p (.string ⟨#[]⟩), .p (.complex .f64 0 0), wi 2, wi 0, .p (.string ⟨#[97]⟩), .p (.complex .f64 0 0), wi 3, wi 0, .p (.string ⟨#[]⟩), .p (.complex .f64 4617315517961601024 4607182418800017408)]], .lst 1 [wi 3, wi 17]], .tup [.agg [wi 1, .lst 3 [wi 3, wi 1, wi 1, wi 1, wi 0, wi 1, wi 5, .p (.string ⟨#[]⟩), .p (.complex .f64 0 0), wi 1, wi 5, .p (.string ⟨#[]⟩), .p (.complex .f64 0 0), .p (.complex .f64 0 0), .p (.complex .f64 0 0), wi 4, wi 1, wi 2, wi 1, wi 0, wi 2, wi 0, .p (.string ⟨#[97]⟩), .p (.complex .f64 0 0), wi 2, wi 0, .p (.string ⟨#[97]⟩), .p (.complex .f64 0 0), .p (.complex .f64 0 0), .p (.complex .f64 0 0), wi 5, wi 1, wi 3, wi 1, wi 0, wi 0, wi 0, .p (.string ⟨#[]⟩), .p (.complex .f64 0 0), wi 0, wi 0, .p (.string ⟨#[]⟩), .p (.complex .f64 0 0), .p (.complex .f64 4617315517961601024 4607182418800017408), .p (.complex .f64 4617315517961601024 4607182418800017408)]], .lst 3 [.lst 4 (u8A [1, 1, 1, 10]), .lst 5 (u8A [1, 1, 1, 1, 97]), .lst 5 (u8A [1, 1, 1, 10, 2])], .lst 1 [wi 6, wi 14], wi 0], []⟩,
⟨[.lst 3 [.p (.string ⟨#[110]⟩), wi 1, .p (.string ⟨#[115]⟩), wi 2, .p (.string ⟨#[112]⟩), wi 3], .p (.slice none 0 0), .lst 1 [wi 3, wi 17]], .tup [.agg [wi 0, .p (.slice none 0 0)], .p (.slice none 0 0), .p (.slice none 0 0), wi 4], []⟩,
⟨[.lst 3 [.p (.string ⟨#[110]⟩), wi 1, .p (.string ⟨#[115]⟩), wi 2, .p (.string ⟨#[112]⟩), wi 3], .lst 1 [.lst 3 [wi 1, wi 5, .p (.string ⟨#[]⟩), .p (.complex .f64 0 0), wi 2, wi 0, .p (.string ⟨#[97]⟩), .p (.complex .f64 0 0), wi 3, wi 0, .p (.string ⟨#[]⟩), .p (.complex .f64 4617315517961601024 4607182418800017408)]], .lst 1 [wi 3, wi 1]], .tup [.agg [wi 0, .p (.slice none 0 0)], .p (.slice none 0 0), .p (.slice none 0 0), wi 9], []⟩]
theorem KaR83_0_ok : ∀ q ∈ KaR83_0, FnOk Tryz.prog 83 q.args [] q.r q.hp := rows_frz KaTab3_ok mKa_ok (n := 100000) (show KaR83_0.map (fun q => Vm.frzR (Vm.runT Tryz.prog KaTab3 mKa 100000 83 q.args [])) = KaR83_0.map (fun q => some (q.r, q.hp)) by kernel_rfl)
noncomputable def KaTab4 : Tab := [(31, KaR31_0), (80, KaR80_0), (82, KaR82_0), (87, KaR87_0), (88, KaR88_0), (95, KaR95_0), (153, KaR153_0), (165, KaR165_0), (171, KaR171_0), (239, KaR239_0), (273, KaR273_0), (121, KaR121_0), (133, KaR133_0), (203, KaR203_0), (221, KaR221_0), (292, KaR292_0), (86, KaR86_0), (168, KaR168_0), (104, KaR104_0), (205, KaR205_0), (83, KaR83_0)]
theorem KaTab4_ok : TOk Tryz.prog KaTab4 := (tok_cons KaR31_0_ok (tok_cons KaR80_0_ok (tok_cons KaR82_0_ok (tok_cons KaR87_0_ok (tok_cons KaR88_0_ok (tok_cons KaR95_0_ok (tok_cons KaR153_0_ok (tok_cons KaR165_0_ok (tok_cons KaR171_0_ok (tok_cons KaR239_0_ok (tok_cons KaR273_0_ok (tok_cons KaR121_0_ok (tok_cons KaR133_0_ok (tok_cons KaR203_0_ok (tok_cons KaR221_0_ok (tok_cons KaR292_0_ok (tok_cons KaR86_0_ok (tok_cons KaR168_0_ok (tok_cons KaR104_0_ok (tok_cons KaR205_0_ok (tok_cons KaR83_0_ok tok_nil)))))))))))))))))))))
end Ka
end Go.Proofs.YtlemialjfnbchaaGreat

namespace Go.Proofs.YtlemialjfnbchaaGreat
namespace Ka
open Go Go.Vm
set_option maxRecDepth 100000
theorem known : Vm.runT Tryz.prog KaTab4 mKa 100000 28 [] [] = some (.p (.bool true), []) := by kernel_rfl
theorem knownOk : FnOk Tryz.prog 28 [] [] (.p (.bool true)) [] := runT_ok KaTab4_ok mKa_ok 100000 _ _ _ _ _ known
def knownV (args : List AV) (hp : List Blk) : Option (AV × List Blk) := match args, hp with
  | [], [] => some (.p (.bool true), [])
  | _, _ => none
theorem known_con {args : List AV} {hp hp' : List Blk} {r : AV} (k : knownV args hp = some (r, hp')) : FnOk Tryz.prog 28 args hp r hp' := by
  unfold knownV at k
  split at k
  · cases k; exact knownOk
  · cases k
end Ka
end Go.Proofs.YtlemialjfnbchaaGreat
