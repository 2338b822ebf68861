/- The nodes of a predicate: the walk, its stack a block of its own. -/
import Derived.Test.YtdahjdfjpckdcaaVmE
import Derived.Test.YtdahjdfjpckdcaaLtC
namespace Go.Proofs.Ytdahjdfjpckdcaa
open Go Go.Vm
set_option maxRecDepth 100000
def mWk : Vm.Mode := ⟨fun f => Nat.beq f 68, fun _ => none⟩
theorem okWk (f : FuncId) (F : List AV → List Blk → Option (AV × List Blk)) (h : mWk.ov f = some F) (args : List AV) (hp : List Blk) (r : AV) (hp' : List Blk) (_ : F args hp = some (r, hp')) : FnOk Try.prog f args hp r hp' := by cases h
noncomputable abbrev rWk := orV Try.prog mWk 60
def scOf : Code → Code | .scope c => c | c => c
def opsOf : Code → Array Oper | .region _ ops _ => ops | _ => #[]
def idOf : Code → Nat | .region i _ _ => i | _ => 0
noncomputable def wk : Code := scOf (cR (bodyOf Try.f96))
noncomputable def wkA : Code := cL (bodyOf Try.f96)
noncomputable def wkR : Code := cL (cN 1 wk)
theorem wk_body : bodyOf Try.f96 = .seq wkA (.scope wk) := by kernel_rfl
theorem wk_eq : wk = .seq (cL wk) (.seq wkR (cN 2 wk)) := by kernel_rfl
theorem wkR_eq : wkR = .region (idOf wkR) (opsOf wkR) false := by kernel_rfl
theorem wkR_d : dstsOk 44 (opsOf wkR) = true := by kernel_rfl
noncomputable def finV (t : Tr) (hp : List Blk) : Option (AV × List Blk) := match resV Try.prog t hp [.tmp 2] with | some [v] => gcV 0 v hp | _ => none
noncomputable def walkX (args : List AV) (hp : List Blk) : Option (AV × List Blk) :=
  match hp with
  | [] => (match exV Try.prog rWk mWk 44 60 wkA (frameOf 0 args .lf) [] with
    | some (.nrm, t0, h0) => (match exV Try.prog rWk mWk 44 60 (cL wk) t0 h0 with
      | some (.nrm, t1, h1) => (match opsW Try.prog rWk mWk (opsOf wkR) (fun i => Nat.beq i 2) (opsOf wkR).toList 0 t1 h1 with
        | some (t2, h2) => (match exV Try.prog rWk mWk 44 60 (cN 2 wk) t2 h2 with
          | some (.goto l, t3, h3) => (match findLabel wk l with
            | some rest => (match scopeR (exV Try.prog rWk mWk 44 60) wk 60 rest t3 h3 with
              | some (.ret, t4, h4) => finV t4 h4
              | _ => none)
            | none => none)
          | some (.ret, t3, h3) => finV t3 h3
          | _ => none)
        | none => none)
      | _ => none)
    | _ => none)
  | _ => none
theorem wkRun : RunOk Try.prog rWk := orV_ok okWk 60
theorem wk_fin {t : Tr} {hp hp' : List Blk} {r : AV} (h : finV t hp = some (r, hp')) : (Ex.ret = .nrm ∨ Ex.ret = .ret) ∧ (match resV Try.prog t hp Try.f96.results.toList with | some [v] => gcV 0 v hp | some vs => gcV 0 (.tup vs) hp | none => none) = some (r, hp') := by
  refine ⟨.inr rfl, ?_⟩
  have e1 : Try.f96.results.toList = [.tmp 2] := by kernel_rfl
  rw [e1]
  unfold finV at h
  split at h
  · rename_i v hv; rw [hv]; exact h
  · cases h
theorem walkX_ok {args : List AV} {hp hp' : List Blk} {r : AV} (h : walkX args hp = some (r, hp')) (hn : args.length ≤ 44) : FnOk Try.prog 96 args hp r hp' := by
  have hN : 44 < 16383 := by decide
  unfold walkX at h
  split at h
  · have hmax : Nat.max args.length Try.f96.ntmps = 44 := by
      rw [(by kernel_rfl : Try.f96.ntmps = 44)]; exact Nat.max_eq_right hn
    refine fn_of_tri (fn := Try.f96) (c := .seq wkA (.scope wk)) Try.func96 (by rw [← wk_body]; kernel_rfl) (by rw [hmax]; exact hN) ?_
    rw [hmax]
    split at h
    · rename_i t0 h0 e0
      split at h
      · rename_i t1 h1 e1
        split at h
        · rename_i t2 h2 e2
          refine Tri.seq (Mid := fun x t hp => x = .nrm ∧ t = t0 ∧ hp = h0) (Tri.run wkRun hN e0 ⟨rfl, rfl, rfl⟩) ?_ (fun x t hp hx q => absurd q.1 hx)
          rintro t hp ⟨_, rfl, rfl⟩
          refine Tri.scopeV (M := mWk) (n := 60) (k := 60) wkRun hN ?_
          have go : ∀ {Post : Ex → Tr → List Blk → Prop}, Tri Try.prog 44 0 (cN 2 wk) t2 h2 Post → Tri Try.prog 44 0 wk t hp Post := by
            intro Post hT
            rw [wk_eq]
            refine Tri.seq (Mid := fun x t hp => x = .nrm ∧ t = t1 ∧ hp = h1) (Tri.run wkRun hN e1 ⟨rfl, rfl, rfl⟩) ?_ (fun x t hp hx q => absurd q.1 hx)
            rintro t hp ⟨_, rfl, rfl⟩
            refine Tri.seq (Mid := fun x t hp => x = .nrm ∧ t = t2 ∧ hp = h2) ?_ ?_ (fun x t hp hx q => absurd q.1 hx)
            · rw [wkR_eq]
              exact Tri.own wkRun hN wkR_d e2 ⟨rfl, rfl, rfl⟩
            · rintro t hp ⟨_, rfl, rfl⟩
              exact hT
          refine go ?_
          split at h
          · rename_i l t3 h3 e3
            split at h
            · rename_i rest hf
              split at h
              · rename_i t4 h4 e4
                exact Tri.run wkRun hN e3 (.inl ⟨l, rest, _, _, _, rfl, hf, e4, wk_fin h⟩)
              · cases h
            · cases h
          · rename_i t3 h3 e3
            exact Tri.run wkRun hN e3 (.inr ⟨fun l => by simp, wk_fin h⟩)
          · cases h
        · cases h
      · cases h
    · cases h
  · cases h
end Go.Proofs.Ytdahjdfjpckdcaa
