/- PassEach: its paths. -/
import Derived.Test.YtnbnheifgoipnaaPeA
namespace Go.Proofs.Ytnbnheifgoipnaa
open Go Go.Vm
set_option maxRecDepth 100000
abbrev vU (n : Int) : AV := .p (.int .u8 n)
abbrev vK (m : Nat) : AV := vN (Int.ofNat (m + 1))
abbrev blk (f : Int) (m : Nat) (i : Int) : Blk := { cells := [vN f, vK m, vN i], esz := 0, gen := 0, row := false, ro := false }
noncomputable abbrev eV := orV Try.prog m2 50
noncomputable abbrev eS := orS Try.prog m2 50

theorem each_pre (a f : Int) (m : Nat) : (exL Try.prog eS m2 80 50 [sL eB, sL (sR eB), sL (sR (sR eB)), sL (sR (sR (sR eB))), sL (sR (sR (sR (sR eB))))] (mk ([0, 1].zip [vU a, vU (Int.ofNat m)])) [] ([(5, vK m), (4, vN f)], [])).map (Vm.seen [4, 5, 6, 7]) =
    some (.nrm, [vF, vK m, vN f, .ptr 0 0 0], [blk f m 0], ([], [(vN ((IntKind.wrap .i64 a).tmod (Int.ofNat (m + 1))), vN f), (vN (IntKind.wrap .i64 (1 + IntKind.wrap .i64 (Int.ofNat m))), vK m)])) := by kernel_rfl
theorem each_r6 (f : Int) (m : Nat) : (exL Try.prog eS m2 80 50 [sL (sL e5)] (mk ([4, 5, 6, 7].zip [vF, vK m, vN f, .ptr 0 0 0])) [blk f m 0] ([], [])).map (Vm.seen [4, 5, 6, 7, 8]) =
    some (.nrm, [vF, vK m, vN f, .ptr 0 0 0, vN 0], [blk f m 0], ([], [])) := by kernel_rfl
theorem each_out (f : Int) (m i : Nat) : (exS Try.prog eS m2 80 50 eL (mk ([4, 5, 6, 7, 8].zip [vF, vK m, vN f, .ptr 0 0 0, vN (Int.ofNat i)])) [blk f m (Int.ofNat i)] ([(2, vF)], [])).map (Vm.seen [4, 5, 7]) =
    some (.exit 0, [vF, vK m, .ptr 0 0 0], [blk f m (Int.ofNat i)], ([], [(vB (Int.ofNat i < Int.ofNat (m + 1)), vF)])) := by kernel_rfl
theorem each_in (f : Int) (m i : Nat) : (exS Try.prog eS m2 80 50 eL (mk ([4, 5, 6, 7, 8].zip [vF, vK m, vN f, .ptr 0 0 0, vN (Int.ofNat i)])) [blk f m (Int.ofNat i)] ([(2, vT), (4, vT), (11, vF), (7, vF), (2, vR f (Int.ofNat (m + 1)) (Int.ofNat (i + 1))), (3, vN (Int.ofNat (i + 1)))], [])).map (Vm.seen [4, 5, 6, 7, 8]) =
    some (.nrm, [vF, vK m, vN f, .ptr 0 0 0, vN (Int.ofNat (i + 1))], [blk f m (Int.ofNat (i + 1))], ([], [(vN (IntKind.wrap .i64 (Int.ofNat i + 1)), vN (Int.ofNat (i + 1))),
      (vR f (Int.ofNat (m + 1)) (rUp f (Int.ofNat (m + 1)) (Int.ofNat i)), vR f (Int.ofNat (m + 1)) (Int.ofNat (i + 1))),
      (.p (.bool (rIs f (Int.ofNat (m + 1)) (Int.ofNat i) != IntKind.wrap .i64 (Int.ofNat (m + 1) - Int.ofNat i))), vF),
      (.p (.bool (rTo f (Int.ofNat (m + 1)) (Int.ofNat i) != (IntKind.wrap .i64 (f + Int.ofNat i)).tmod (Int.ofNat (m + 1)))), vF),
      (.p (.bool (rOk f (Int.ofNat (m + 1)) (Int.ofNat i))), vT), (vB (Int.ofNat i < Int.ofNat (m + 1)), vT)])) := by kernel_rfl
theorem each_end (f : Int) (m : Nat) : (exL Try.prog eS m2 80 50 [sL (sR e5), sL (sR (sR e5))] (mk ([4, 5, 7].zip [vF, vK m, .ptr 0 0 0])) [blk f m (Int.ofNat (m + 1))] ([(4, vF), (7, vT), (5, vT), (5, vT)], [])).map (Vm.seen [4]) =
    some (.nrm, [vT], [blk f m (Int.ofNat (m + 1))], ([], [(.p (.bool ((f == f) && ((Int.ofNat (m + 1) == Int.ofNat (m + 1)) && ((rUp f (Int.ofNat (m + 1)) (Int.ofNat (m + 1)) == Int.ofNat (m + 1)) && true)))), vT),
      (.p (.bool (Int.ofNat (m + 1) == Int.ofNat (m + 1))), vT), (.p (.bool (rIs f (Int.ofNat (m + 1)) (Int.ofNat (m + 1)) == 0)), vT), (.p (.bool (rOk f (Int.ofNat (m + 1)) (Int.ofNat (m + 1)))), vF)])) := by kernel_rfl
end Go.Proofs.Ytnbnheifgoipnaa
