/- SkipTurns: its code in pieces, and the contracts that it needs. -/
import Derived.Test.YtdahjdfjpckdcaaKtE
namespace Go.Proofs.Ytdahjdfjpckdcaa
open Go Go.Vm
set_option maxRecDepth 100000
def oTrueK : List AV → List Blk → Option (AV × List Blk)
  | [], [] => some (wB true, [])
  | _, _ => none
theorem of_trueK {f : FuncId} (hf : FnOk Try.prog f [] [] (wB true) []) {args : List AV} {hp hp' : List Blk} {r : AV} (h : oTrueK args hp = some (r, hp')) : FnOk Try.prog f args hp r hp' := by
  unfold oTrueK at h
  split at h
  · cases h; exact hf
  · cases h
theorem known15 : FnOk Try.prog 15 [] [] (wB true) [] := runV_ok (M := m0') ok0' 100 _ _ _ _ _ (by kernel_rfl)
def vals2 : List AV → Option (Int × Int)
  | [.p (.int .i64 (.ofNat 1)), .p (.int .i64 a), .p (.string s), .p (.complex .f64 0 0), .p (.int .i64 (.ofNat 1)), .p (.int .i64 b), .p (.string u), .p (.complex .f64 0 0)] => cond (s.data.toList.isEmpty && u.data.toList.isEmpty) (some (a, b)) none
  | _ => none
theorem vals2_ok {cs : List AV} {a b : Int} (h : vals2 cs = some (a, b)) : cs = valC a ++ valC b := by
  unfold vals2 at h
  split at h
  · rename_i a s b u
    cases hc : (s.data.toList.isEmpty && u.data.toList.isEmpty) with
    | false => rw [hc] at h; cases h
    | true => rw [hc] at h; cases h; rw [Bool.and_eq_true] at hc; rw [empty_str hc.1, empty_str hc.2]; rfl
  · cases h
/-- what two numbers, and perhaps a Null, have -/
def oOf2 : List AV → List Blk → Option (AV × List Blk)
  | [.lst 2 cs, .p (.int .i64 (.ofNat 1))], [] => (match vals2 cs with | some (a, b) => if a ≤ b then some (.tup [.agg (statC 2 0 a b), wN 0], []) else none | none => none)
  | [.lst 3 (c1 :: c2 :: c3 :: c4 :: c5 :: c6 :: c7 :: c8 :: [.p (.int .i64 (.ofNat 0)), .p (.int .i64 (.ofNat 0)), .p (.string s), .p (.complex .f64 0 0)]), .p (.int .i64 (.ofNat 1))], [] =>
    cond s.data.toList.isEmpty (match vals2 [c1, c2, c3, c4, c5, c6, c7, c8] with | some (a, b) => if a ≤ b then some (.tup [.agg (statC 3 1 a b), wN 0], []) else none | none => none) none
  | _, _ => none
theorem of_of2 {args : List AV} {hp hp' : List Blk} {r : AV} (h : oOf2 args hp = some (r, hp')) : FnOk Try.prog 17 args hp r hp' := by
  unfold oOf2 at h
  split at h
  · split at h
    · rename_i a b hv
      split at h
      · rename_i hab
        cases h; rw [vals2_ok hv]; exact (of2_ok hab).1
      · cases h
    · cases h
  · rename_i s
    cases hs : s.data.toList.isEmpty with
    | false => rw [hs] at h; cases h
    | true =>
      rw [hs, cond_true] at h
      rw [empty_str hs]
      split at h
      · rename_i a b hv
        split at h
        · rename_i hab
          cases h
          have := vals2_ok hv
          simp only [List.cons_append, List.nil_append, List.cons.injEq, and_true] at this
          obtain ⟨rfl, rfl, rfl, rfl, rfl, rfl, rfl, rfl⟩ := this
          exact (of2_ok hab).2
        · cases h
      · cases h
  · cases h
theorem oOf2_eq {a b : Int} (h : a ≤ b) : outF (oOf2 [.lst 2 (valC a ++ valC b), wN 1] []) = .tup [.agg (statC 2 0 a b), wN 0] ∧ outF (oOf2 [.lst 3 (valC a ++ valC b ++ nulC), wN 1] []) = .tup [.agg (statC 3 1 a b), wN 0] := by
  have e1 : oOf2 [.lst 2 (valC a ++ valC b), wN 1] [] = if a ≤ b then some (.tup [.agg (statC 2 0 a b), wN 0], []) else none := rfl
  have e2 : oOf2 [.lst 3 (valC a ++ valC b ++ nulC), wN 1] [] = if a ≤ b then some (.tup [.agg (statC 3 1 a b), wN 0], []) else none := rfl
  rw [e1, e2, if_pos h, if_pos h]
  exact ⟨rfl, rfl⟩
def nodeOf : List AV → Option (Nat × AV)
  | [o, .p (.int .i64 (.ofNat 0)), .p (.int .i64 (.ofNat 0)), .p (.int .i64 (.ofNat 0)), .p (.string s), .p (.complex .f64 0 0), .p (.complex .f64 0 0), .p (.complex .f64 0 0), kids] =>
    cond s.data.toList.isEmpty (match o with | .p (.int .i64 (.ofNat op)) => some (op, kids) | _ => none) none
  | _ => none
theorem nodeOf_ok {cs : List AV} {op : Nat} {kids : AV} (h : nodeOf cs = some (op, kids)) : cs = nodeC (Int.ofNat op) kids := by
  unfold nodeOf at h
  split at h
  · rename_i o s k
    cases hc : s.data.toList.isEmpty with
    | false => rw [hc] at h; cases h
    | true =>
      rw [hc, cond_true] at h
      split at h
      · cases h; rw [empty_str hc]; rfl
      · cases h
  · cases h
/-- May, of a comparison, of its contrary, of two together -/
def oMay (args : List AV) (hp : List Blk) : Option (AV × List Blk) :=
  match args, hp with
  | [.agg cs, st], [] => (match nodeOf cs with
    | some (11, .lst 1 ks) => (match maskA ks st with | some (.ofNat p) => if p < 8 then some (wN (Int.ofNat (notN p)), []) else none | _ => none)
    | some (9, .lst 2 (k1 :: k2 :: k3 :: k4 :: k5 :: k6 :: k7 :: k8 :: k9 :: ks)) => (match maskA [k1, k2, k3, k4, k5, k6, k7, k8, k9] st, maskA ks st with | some (.ofNat p), some (.ofNat q) => if p < 8 ∧ q < 8 then some (wN (Int.ofNat (allN p q)), []) else none | _, _ => none)
    | some (10, .lst 2 (k1 :: k2 :: k3 :: k4 :: k5 :: k6 :: k7 :: k8 :: k9 :: ks)) => (match maskA [k1, k2, k3, k4, k5, k6, k7, k8, k9] st, maskA ks st with | some (.ofNat p), some (.ofNat q) => if p < 8 ∧ q < 8 then some (wN (Int.ofNat (anyN p q)), []) else none | _, _ => none)
    | _ => oLeaf args hp)
  | _, _ => none
theorem two_ok' {cs ds : List AV} {st : AV} {p q : Nat} (h : maskA cs st = some (Int.ofNat p)) (k : maskA ds st = some (Int.ofNat q)) (hp : p < 8) (hq : q < 8) :
    FnOk Try.prog 19 [.agg (nodeC 9 (.lst 2 (cs ++ ds))), st] [] (wN (Int.ofNat (allN p q))) [] ∧ FnOk Try.prog 19 [.agg (nodeC 10 (.lst 2 (cs ++ ds))), st] [] (wN (Int.ofNat (anyN p q))) [] := by
  obtain ⟨op, v, rows, nulls, low, high, rfl, rfl, hc, hm⟩ := maskA_ok h
  obtain ⟨pp, u, rows', nulls', low', high', rfl, hst, hc', hm'⟩ := maskA_ok k
  exact two_ok h k (by omega) hp hq
theorem of_may {args : List AV} {hp hp' : List Blk} {r : AV} (h : oMay args hp = some (r, hp')) : FnOk Try.prog 19 args hp r hp' := by
  unfold oMay at h
  split at h
  · rename_i cs st
    split at h
    · rename_i ks hn
      rw [nodeOf_ok hn]
      split at h
      · rename_i p hm
        split at h
        · rename_i hp; cases h; exact not_ok hm hp
        · cases h
      · cases h
    · rename_i k1 k2 k3 k4 k5 k6 k7 k8 k9 ks hn
      rw [nodeOf_ok hn]
      split at h
      · rename_i p q hm hm'
        split at h
        · rename_i hp; cases h; exact (two_ok' hm hm' hp.1 hp.2).1
        · cases h
      · cases h
    · rename_i k1 k2 k3 k4 k5 k6 k7 k8 k9 ks hn
      rw [nodeOf_ok hn]
      split at h
      · rename_i p q hm hm'
        split at h
        · rename_i hp; cases h; exact (two_ok' hm hm' hp.1 hp.2).2
        · cases h
      · cases h
    · exact of_leaf h
  · cases h
section
variable {op v pp u : Int} {st : AV} {p q : Nat}
theorem oMay_leaf (h : maskA (leafC op v) st = some (Int.ofNat p)) : outF (oMay [.agg (leafC op v), st] []) = wN (Int.ofNat p) := by
  have : oMay [.agg (leafC op v), st] [] = oLeaf [.agg (leafC op v), st] [] := rfl
  rw [this]
  exact oLeaf_eq h
theorem oMay_not (h : maskA (leafC op v) st = some (Int.ofNat p)) (hp : p < 8) : outF (oMay [.agg (nodeC 11 (.lst 1 (leafC op v))), st] []) = wN (Int.ofNat (notN p)) := by
  have : oMay [.agg (nodeC 11 (.lst 1 (leafC op v))), st] [] = (match maskA (leafC op v) st with | some (.ofNat p) => if p < 8 then some (wN (Int.ofNat (notN p)), []) else none | _ => none) := rfl
  rw [this, h]
  simp only [if_pos hp]
  rfl
theorem oMay_and (h : maskA (leafC op v) st = some (Int.ofNat p)) (k : maskA (leafC pp u) st = some (Int.ofNat q)) (hp : p < 8) (hq : q < 8) : outF (oMay [.agg (nodeC 9 (.lst 2 (leafC op v ++ leafC pp u))), st] []) = wN (Int.ofNat (allN p q)) := by
  have : oMay [.agg (nodeC 9 (.lst 2 (leafC op v ++ leafC pp u))), st] [] = (match maskA (leafC op v) st, maskA (leafC pp u) st with | some (.ofNat p), some (.ofNat q) => if p < 8 ∧ q < 8 then some (wN (Int.ofNat (allN p q)), []) else none | _, _ => none) := rfl
  rw [this, h, k]
  simp only [if_pos (And.intro hp hq)]
  rfl
theorem oMay_or (h : maskA (leafC op v) st = some (Int.ofNat p)) (k : maskA (leafC pp u) st = some (Int.ofNat q)) (hp : p < 8) (hq : q < 8) : outF (oMay [.agg (nodeC 10 (.lst 2 (leafC op v ++ leafC pp u))), st] []) = wN (Int.ofNat (anyN p q)) := by
  have : oMay [.agg (nodeC 10 (.lst 2 (leafC op v ++ leafC pp u))), st] [] = (match maskA (leafC op v) st, maskA (leafC pp u) st with | some (.ofNat p), some (.ofNat q) => if p < 8 ∧ q < 8 then some (wN (Int.ofNat (anyN p q)), []) else none | _, _ => none) := rfl
  rw [this, h, k]
  simp only [if_pos (And.intro hp hq)]
  rfl
end
def mF : Vm.Mode := ⟨fun _ => false, fun f => cond (Nat.beq f 15) (some oTrueK) (cond (Nat.beq f 17) (some oOf2) (cond (Nat.beq f 19) (some oMay) none))⟩
theorem okF (f : FuncId) (F : List AV → List Blk → Option (AV × List Blk)) (h : mF.ov f = some F) (args : List AV) (hp : List Blk) (r : AV) (hp' : List Blk) (k : F args hp = some (r, hp')) : FnOk Try.prog f args hp r hp' := by
  rcases ov_cond h with ⟨rfl, rfl⟩ | h
  · exact of_trueK known15 k
  rcases ov_cond h with ⟨rfl, rfl⟩ | h
  · exact of_of2 k
  rcases ov_cond h with ⟨rfl, rfl⟩ | h
  · exact of_may k
  cases h
def tL : Code → Code | .seq a _ => a | c => c
def tR : Code → Code | .seq _ b => b | c => c
def tN : Nat → Code → Code | 0, c => c | n + 1, c => tN n (tR c)
noncomputable def tB : Code := match Try.f4.body with | some c => c | none => .skip
noncomputable def tA : List Code := (List.range 10).map fun i => tL (tN i tB)
theorem tB_eq : tB = seqs tA (seqs [tL (tN 10 tB)] (seqs [tL (tN 11 tB)] .ret)) := by kernel_rfl
abbrev vI8 (n : Int) : AV := .p (.int .i8 n)
abbrev vU8 (n : Int) : AV := .p (.int .u8 n)
end Go.Proofs.Ytdahjdfjpckdcaa
