/- PassShares: its paths. -/
import Derived.Test.YtdahjdfjpckdcaaQsA
namespace Go.Proofs.Ytdahjdfjpckdcaa
open Go Go.Vm
set_option maxRecDepth 100000
noncomputable abbrev eV := orV Try.prog mk1 50
noncomputable abbrev eS := orS Try.prog mk1 50
abbrev rB (f k : Int) : Blk := { cells := [vN f, vN k, vN 0], esz := 0, gen := 0, row := false, ro := false }
noncomputable abbrev preS : List Code := [sL sB, sL (sR sB), sL (sR (sR sB)), sL (sR (sR (sR sB))), sL (sR (sR (sR (sR sB)))), sL (sR (sR (sR (sR (sR sB)))))]
theorem sh_pre (X Y : List AV) (a c : Nat) : (exL Try.prog eS mk1 100 50 preS (mk ([0, 1].zip [.lst a X, .lst c Y])) [] ([(5, vF), (5, vF)], [])).map (Vm.seen [0, 1, 4, 5, 6, 7]) =
    some (.nrm, [.lst a X, .lst c Y, vF, .ptr 0 0 0, .ptr 1 0 0, vN (-1)], [pB true false 0, pB false false 0], ([], [(vB (Int.ofNat c < Int.ofNat a), vF), (vB (Int.ofNat a > 40), vF)])) := by kernel_rfl
theorem sh_long (X Y : List AV) (a c : Nat) : (exL Try.prog eS mk1 100 50 preS (mk ([0, 1].zip [.lst a X, .lst c Y])) [] ([(5, vT)], [])).map (Vm.seen [0, 1, 4, 5, 6, 7]) =
    some (.ret, [.lst a X, .lst c Y, vT, .top, .top, .top], [], ([], [(vB (Int.ofNat a > 40), vT)])) := by kernel_rfl
theorem sh_few (X Y : List AV) (a c : Nat) : (exL Try.prog eS mk1 100 50 preS (mk ([0, 1].zip [.lst a X, .lst c Y])) [] ([(5, vF), (5, vT)], [])).map (Vm.seen [0, 1, 4, 5, 6, 7]) =
    some (.ret, [.lst a X, .lst c Y, vT, .top, .top, .top], [], ([], [(vB (Int.ofNat c < Int.ofNat a), vT), (vB (Int.ofNat a > 40), vF)])) := by kernel_rfl
theorem sh_in1 (X Y : List AV) (a c i : Nat) (K L M N D : Int) : (exL Try.prog eS mk1 100 50 [sL sLp, sL (sR sLp)] (mk ([0, 1, 5, 6, 7, 8].zip [.lst a X, .lst c Y, .ptr 0 0 0, .ptr 1 0 0, vN L, vN (Int.ofNat i)])) [pB true true L, pB false true L] ([(3, vT), (2, .ifc 4294967295 (.ip Y (i * 1))), (0, .ifc 4294967295 (vU N)), (1, vN K), (5, vN K), (17, vT), (13, vN K), (19, vT), (3, vT), (6, vF), (9, vF), (5, vF), (11, .ifc 4294967295 (.ip X (i * 1))), (0, .ifc 4294967295 (vU D)), (1, vN M), (4, vT), (13, vT)], [])).map (Vm.seen [0, 1, 5, 6, 7, 8]) =
    some (.nrm, [.lst a X, .lst c Y, .ptr 0 0 0, .ptr 1 0 0, vN M, vN (Int.ofNat i)], [pB true true M, pB false true M, rB L K, rB 0 K], ([], [(vB (M ≥ 0), vT),
      (vB (M ≥ 0), vT),
      (vN (IntKind.wrap .i64 (D.tmod 20)), vN M),
      (ldO Try.prog 5 X (i * 1) [pB true true L, pB false true L, rB L K, rB 0 K], vU D),
      (ixO i a X (i * 1) [pB true true L, pB false true L, rB L K, rB 0 K], .ip X (i * 1)),
      (.p (.bool (K != K)), vF),
      (.p (.bool (K != K)), vF),
      (.p (.bool (L != L)), vF),
      (vB (L < K), vT),
      (vB (L ≥ 0), vT),
      (vN (if 0 > K then 0 else K), vN K),
      (vB (L < K), vT),
      (vN (if 0 > K then 0 else K), vN K),
      (vN (IntKind.wrap .i64 (N.tmod 30)), vN K),
      (ldO Try.prog 5 Y (i * 1) [pB true true L, pB false true L], vU N),
      (ixO i c Y (i * 1) [pB true true L, pB false true L], .ip Y (i * 1)),
      (vB (Int.ofNat i < Int.ofNat a), vT)])) := by kernel_rfl
theorem sh_in2 (X Y : List AV) (a c i : Nat) (K L M N D : Int) : (exL Try.prog eS mk1 100 50 [sL sLp, sL (sR sLp)] (mk ([0, 1, 5, 6, 7, 8].zip [.lst a X, .lst c Y, .ptr 0 0 0, .ptr 1 0 0, vN L, vN (Int.ofNat i)])) [pB true true L, pB false true L] ([(3, vT), (2, .ifc 4294967295 (.ip Y (i * 1))), (0, .ifc 4294967295 (vU N)), (1, vN K), (5, vN K), (17, vF), (9, vN K), (19, vT), (3, vF), (14, vF), (5, vF), (11, .ifc 4294967295 (.ip X (i * 1))), (0, .ifc 4294967295 (vU D)), (1, vN M), (4, vT), (13, vT)], [])).map (Vm.seen [0, 1, 5, 6, 7, 8]) =
    some (.nrm, [.lst a X, .lst c Y, .ptr 0 0 0, .ptr 1 0 0, vN M, vN (Int.ofNat i)], [pB true true M, pB false true M, rB 0 K, rB 0 K], ([], [(vB (M ≥ 0), vT),
      (vB (M ≥ 0), vT),
      (vN (IntKind.wrap .i64 (D.tmod 20)), vN M),
      (ldO Try.prog 5 X (i * 1) [pB true true L, pB false true L, rB 0 K, rB 0 K], vU D),
      (ixO i a X (i * 1) [pB true true L, pB false true L, rB 0 K, rB 0 K], .ip X (i * 1)),
      (.p (.bool (K != K)), vF),
      (.p (.bool (K != K)), vF),
      (vB (L < K), vF),
      (vB (L ≥ 0), vT),
      (vN (if 0 > K then 0 else K), vN K),
      (vB (L < K), vF),
      (vN (if 0 > K then 0 else K), vN K),
      (vN (IntKind.wrap .i64 (N.tmod 30)), vN K),
      (ldO Try.prog 5 Y (i * 1) [pB true true L, pB false true L], vU N),
      (ixO i c Y (i * 1) [pB true true L, pB false true L], .ip Y (i * 1)),
      (vB (Int.ofNat i < Int.ofNat a), vT)])) := by kernel_rfl
theorem sh_in0 (X Y : List AV) (a c i : Nat) (K M N D : Int) : (exL Try.prog eS mk1 100 50 [sL sLp, sL (sR sLp)] (mk ([0, 1, 5, 6, 7, 8].zip [.lst a X, .lst c Y, .ptr 0 0 0, .ptr 1 0 0, vN (-1), vN (Int.ofNat i)])) [pB true false 0, pB false false 0] ([(3, vT), (2, .ifc 4294967295 (.ip Y (i * 1))), (0, .ifc 4294967295 (vU N)), (1, vN K), (5, vN K), (21, vN K), (35, vF), (5, vF), (11, .ifc 4294967295 (.ip X (i * 1))), (0, .ifc 4294967295 (vU D)), (1, vN M), (4, vT), (13, vT)], [])).map (Vm.seen [0, 1, 5, 6, 7, 8]) =
    some (.nrm, [.lst a X, .lst c Y, .ptr 0 0 0, .ptr 1 0 0, vN M, vN (Int.ofNat i)], [pB true true M, pB false true M, rB 0 K, rB 0 K], ([], [(vB (M ≥ 0), vT),
      (vB (M ≥ 0), vT),
      (vN (IntKind.wrap .i64 (D.tmod 20)), vN M),
      (ldO Try.prog 5 X (i * 1) [pB true false 0, pB false false 0, rB 0 K, rB 0 K], vU D),
      (ixO i a X (i * 1) [pB true false 0, pB false false 0, rB 0 K, rB 0 K], .ip X (i * 1)),
      (.p (.bool (K != K)), vF),
      (.p (.bool (K != K)), vF),
      (vN (if 0 > K then 0 else K), vN K),
      (vN (if 0 > K then 0 else K), vN K),
      (vN (IntKind.wrap .i64 (N.tmod 30)), vN K),
      (ldO Try.prog 5 Y (i * 1) [pB true false 0, pB false false 0], vU N),
      (ixO i c Y (i * 1) [pB true false 0, pB false false 0], .ip Y (i * 1)),
      (vB (Int.ofNat i < Int.ofNat a), vT)])) := by kernel_rfl
theorem sh_out (X Y : List AV) (a c i : Nat) (L : Int) (l : List Blk) : (exL Try.prog eS mk1 100 50 [sL sLp, sL (sR sLp)] (mk ([0, 1, 5, 6, 7, 8].zip [.lst a X, .lst c Y, .ptr 0 0 0, .ptr 1 0 0, vN L, vN (Int.ofNat i)])) l ([(3, vF)], [])).map (Vm.seen [4]) =
    some (.exit 0, [.top], l, ([], [(vB (Int.ofNat i < Int.ofNat a), vF)])) := by kernel_rfl
theorem sh_up (X Y : List AV) (a c i : Nat) (L : Int) (l : List Blk) : (exS Try.prog eS mk1 100 50 (sR (sR sLp)) (mk ([0, 1, 5, 6, 7, 8].zip [.lst a X, .lst c Y, .ptr 0 0 0, .ptr 1 0 0, vN L, vN (Int.ofNat i)])) l ([(2, vN (Int.ofNat (i + 1)))], [])).map (Vm.seen [0, 1, 5, 6, 7, 8]) =
    some (.nrm, [.lst a X, .lst c Y, .ptr 0 0 0, .ptr 1 0 0, vN L, vN (Int.ofNat (i + 1))], l, ([], [(vN (IntKind.wrap .i64 (Int.ofNat i + 1)), vN (Int.ofNat (i + 1)))])) := by kernel_rfl
theorem sLp_eq : sLp = seqs [sL sLp, sL (sR sLp)] (sR (sR sLp)) := by kernel_rfl
theorem sh_i0 (X Y : List AV) (a c : Nat) (l : List Blk) : (exL Try.prog eS mk1 100 50 [sL (sL s6)] (mk ([0, 1, 4, 5, 6, 7].zip [.lst a X, .lst c Y, vF, .ptr 0 0 0, .ptr 1 0 0, vN (-1)])) l ([], [])).map (Vm.seen [0, 1, 5, 6, 7, 8]) =
    some (.nrm, [.lst a X, .lst c Y, .ptr 0 0 0, .ptr 1 0 0, vN (-1), vN 0], l, ([], [])) := by kernel_rfl
theorem sh_end (l : List Blk) : (exL Try.prog eS mk1 100 50 [sL (sR s6)] (mk ([].zip [])) l ([], [])).map (Vm.seen [4]) = some (.nrm, [vT], l, ([], [])) := by kernel_rfl
end Go.Proofs.Ytdahjdfjpckdcaa
