/- Rows of Nulls in bytes: names. -/
import Derived.Test.YtdahjdfjpckdcaaLtC
namespace Go.Vm
open Go
/-- a scope out of which nothing jumps -/
theorem Tri.scope {P : Program} {N K : Nat} {c : Code} {t : Tr} {hp : List Blk} {Post : Ex → Tr → List Blk → Prop} (h : Tri P N K c t hp (fun x t' hp' => (∀ l, x ≠ .goto l) ∧ Post x t' hp')) : Tri P N K (.scope c) t hp Post := by
  intro W0 O S0 m0 a w hm hs b k cs
  obtain ⟨e, a', w', ⟨x, t', hp', rfl, ⟨hne, hP⟩, hsim⟩, harr⟩ := h W0 O S0 m0 a w hm hs b (.inScope c :: k) cs
  refine ⟨exOf x, a', w', ⟨x, t', hp', rfl, hP, hsim⟩, .of_steps (.one step_scope) ?_⟩
  cases x with
  | nrm => exact Steps.trans harr (.one step_inScope)
  | exit id => exact fun k' hk => harr k' (by simp [exitTo, hk])
  | goto l => exact absurd rfl (hne l)
  | ret => exact harr
/-- what a new row is, an index into an own row, a store there: as they stand where the length is open -/
def mkSl (P : Program) (ty : TypeId) (n : Nat) (hp : List Blk) : Option Out :=
  match elemT P ty with
  | some e => (match szT P e, bytesT P e, zeroT P e with
    | some sz, some by_, some z =>
      cond (Nat.ble n n && Nat.ble (by_ * n) 70368744177664 && Nat.ble 1 sz && Nat.ble 1 by_ && Nat.beq (cellsA (abs1 z)).length sz && Nat.beq n n && ((List.replicate n (cellsA (abs1 z))).flatten).all imm0)
        (some (.val (.ref hp.length 0 0 n) (hp ++ [{ cells := (List.replicate n (cellsA (abs1 z))).flatten, esz := sz, gen := 0, row := true, ro := false }]))) none
    | _, _, _ => none)
  | none => none
def ixR (hp : List Blk) (i n b g k sz : Nat) : AV := outAV (match getB hp b g with
  | some bl => cond (Nat.blt i n && Nat.beq bl.esz sz && Nat.ble ((i + 1) * sz + k) bl.cells.length) (some (.val (.ptr b g (k + i * sz)) hp)) none
  | none => none)
def stR (hp : List Blk) (b g k : Nat) (cs : List AV) : AV := outAll (match stV hp b g k cs with | some hp2 => some (.val (.p undef) hp2) | none => none)
end Go.Vm
namespace Go.Proofs.Ytdahjdfjpckdcaa
open Go Go.Vm
set_option maxRecDepth 100000
abbrev vB8 (n : Int) : AV := .p (.int .u8 n)
abbrev v64 (n : Int) : AV := .p (.int .u64 n)
def mP (A B : (List AV → List Blk → Option (AV × List Blk))) : Vm.Mode := ⟨fun f => Nat.beq f 68, fun f => cond (Nat.beq f 156) (some A) (cond (Nat.beq f 120) (some B) none)⟩
noncomputable def wd : Code := bodyOf Try.f156
noncomputable def wdB : Code := cI (cI (cR (cL (cN 2 wd))))
theorem wd_eq : wd = seqs (first 2 wd) (.seq (.seq (cL (cL (cN 2 wd))) (.block 0 (.loop wdB))) (seqs [cL (cN 3 wd)] .ret)) := by kernel_rfl
theorem wdB_eq : wdB = seqs (first 3 wdB) (cN 3 wdB) := by kernel_rfl
def inS : Code → Code | .scope c => c | c => c
noncomputable def pk : Code := inS (cR (bodyOf Try.f120))
noncomputable def pkB : Code := cI (cI (cR (cL (cN 4 pk))))
theorem pk_eq : bodyOf Try.f120 = seqs [cL (bodyOf Try.f120)] (.scope pk) := by kernel_rfl
theorem pk_eq2 : pk = seqs (first 4 pk) (.seq (.seq (cL (cL (cN 4 pk))) (.block 0 (.loop pkB))) (.seq (seqs [cL (cL (cN 5 pk))] .ret) (cN 6 pk))) := by kernel_rfl
theorem pkB_eq : pkB = seqs (first 3 pkB) (cN 3 pkB) := by kernel_rfl
abbrev zB (m : Nat) : Blk := { cells := (List.replicate m [vB8 0]).flatten, esz := 1, gen := 0, row := true, ro := false }
end Go.Proofs.Ytdahjdfjpckdcaa
