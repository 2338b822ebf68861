/- PredMany: And, Or of kids; the law's names. -/
import Derived.Test.YtdahjdfjpckdcaaRtB
namespace Go.Proofs.Ytdahjdfjpckdcaa
open Go Go.Vm
set_option maxRecDepth 100000
def mEv (A : OvR) : Vm.Mode := ⟨fun _ => false, fun f => cond (Nat.beq f 46) (some A) none⟩
theorem okEv {A : OvR} (hA : ∀ args hp r hp', A args hp = some (r, hp') → FnOk Try.prog 46 args hp r hp') (f : FuncId) (K : OvR) (h : (mEv A).ov f = some K) (args : List AV) (hp : List Blk) (r : AV) (hp' : List Blk) (k : K args hp = some (r, hp')) : FnOk Try.prog f args hp r hp' := by
  rcases ov_cond h with ⟨rfl, rfl⟩ | h
  · exact hA _ _ _ _ k
  cases h
/-- kids as values of the model -/
def kdV (d : Nat) : Value := .agg ((kidC d).map fun x => match x with | .p v => v | _ => undef).toArray
theorem kdV_eq (d : Nat) : kidC d = (kdV d).cells.toList.map .p := by
  unfold kdV kidC; split <;> rfl
def oKd : OvR := fun args hp => match args, hp with
  | [.p (.int .i64 1), .p (.int .i64 0), .p (.int .i64 2)], [] => some (.p (kdV 0), [])
  | [.p (.int .i64 1), .p (.int .i64 0), .p (.int .i64 1)], [] => some (.p (kdV 1), [])
  | [.p (.int .i64 1), .p (.int .i64 1), .p (.int .i64 1)], [] => some (.p (kdV 2), [])
  | _, _ => none
def mPm (E : OvR) : Vm.Mode := ⟨fun _ => false, fun f => cond (Nat.beq f 24) (some oYs) (cond (Nat.beq f 21) (some E) (cond (Nat.beq f 18) (some oKd) none))⟩
noncomputable abbrev pmV (E : OvR) := orV Try.prog (mPm E) 60
noncomputable abbrev pmS (E : OvR) := orS Try.prog (mPm E) 60
noncomputable def pm : Code := bodyOf Try.f8
noncomputable def pmB : Code := cI (cI (cR (cL (cN 6 pm))))
noncomputable def pmH : Code := cL pmB
noncomputable def pmK : Code := cI (cL (cR pmB))
noncomputable def pmU : Code := cR (cR pmB)
noncomputable def r11 : Code := cL pmK
theorem pm_eq : pm = seqs (first 6 pm) (.seq (.seq (cL (cL (cN 6 pm))) (.block 0 (.loop pmB))) (cN 7 pm)) := by kernel_rfl
theorem pmB_eq : pmB = seqs [pmH] (.seq (.block 1 pmK) pmU) := by kernel_rfl
theorem pmK_eq : pmK = .seq r11 (cR pmK) := by kernel_rfl
theorem r11_eq : r11 = .region (idOf r11) (opsOf r11) true := by kernel_rfl
noncomputable def o11 (i : Nat) : Oper := (opsOf r11).toList.getD i default
noncomputable def ops11 : Array Oper := ({ o11 0 with op := .assign (.const (kdV 0)) } :: { o11 1 with op := .assign (.const (kdV 1)) } :: { o11 2 with op := .assign (.const (kdV 2)) } :: (opsOf r11).toList.drop 3).toArray
noncomputable abbrev s11 : Code := .region (idOf r11) ops11 true
abbrev kB (Y : List AV) (g : Nat) : Blk := { cells := Y, esz := 9, gen := g, row := true, ro := false }
def q3 : List Nat := [0, 1, 2]
end Go.Proofs.Ytdahjdfjpckdcaa
