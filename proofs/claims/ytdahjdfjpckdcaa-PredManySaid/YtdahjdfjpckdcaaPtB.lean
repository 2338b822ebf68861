/- PredNumbers: the law's own known(). -/
import Derived.Test.YtdahjdfjpckdcaaPtA
namespace Go.Proofs.Ytdahjdfjpckdcaa
open Go Go.Vm
set_option maxRecDepth 100000
noncomputable def oWk : List AV → List Blk → Option (AV × List Blk) := fun args hp => match args with
  | [p] => walkX [p] hp
  | _ => none
noncomputable def mKn : Vm.Mode := ⟨fun f => Nat.beq f 68, fun f => cond (Nat.beq f 96) (some oWk) none⟩
theorem okKn (f : FuncId) (F : List AV → List Blk → Option (AV × List Blk)) (h : mKn.ov f = some F) (args : List AV) (hp : List Blk) (r : AV) (hp' : List Blk) (k : F args hp = some (r, hp')) : FnOk Try.prog f args hp r hp' := by
  rcases ov_cond h with ⟨rfl, rfl⟩ | h
  · unfold oWk at k
    split at k
    · exact walkX_ok k (by simp)
    · cases k
  cases h
noncomputable abbrev rKn := orV Try.prog mKn 60
noncomputable def kn : Code := bodyOf Try.f24
noncomputable def knL : List Stp := [.v (cL kn), .v (cL (cN 1 kn)), .v (cL (cN 2 kn)), .any (cL (cN 3 kn)), .v (cN 4 kn)]
theorem kn_eq : kn = stpsC knL := by kernel_rfl
theorem kn_run : (stpsX Try.prog rKn mKn 134 60 knL (frameOf 0 [] .lf) []).map (fun q => (q.1, q.2.1.get 0)) = some (.ret, wB true) := by kernel_rfl
theorem known24 : FnOk Try.prog 24 [] [] (wB true) [] := by
  refine fn_of_tri (fn := Try.f24) (c := stpsC knL) Try.func24 (by rw [← kn_eq]; kernel_rfl) (show (134 : Nat) < 16383 by decide) ?_
  have h := kn_run
  cases he : stpsX Try.prog rKn mKn 134 60 knL (frameOf 0 [] .lf) [] with
  | none => rw [he] at h; cases h
  | some q =>
    obtain ⟨y, t', hp'⟩ := q
    rw [he] at h
    simp only [Option.map_some, Option.some.injEq, Prod.mk.injEq] at h
    obtain ⟨rfl, h0⟩ := h
    refine Tri.stps (M := mKn) (n := 60) (orV_ok okKn 60) (show (134 : Nat) < 16383 by decide) he ⟨.inr rfl, ?_⟩ (by simp [knL])
    have e1 : resV Try.prog t' hp' Try.f24.results.toList = some [t'.get 0] := by kernel_rfl
    rw [e1, h0]
    exact (by kernel_rfl : gcV 0 (wB true) hp' = some (wB true, []))
end Go.Proofs.Ytdahjdfjpckdcaa
