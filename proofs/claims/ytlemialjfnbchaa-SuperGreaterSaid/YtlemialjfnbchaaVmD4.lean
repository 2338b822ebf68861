/- Regions that draw their order: one order serves all. -/
import Derived.Test.YtlemialjfnbchaaVmD3
import Derived.Test.YtlemialjfnbchaaVmX
namespace Go.Vm
open Go

/-! ### what hangs on what -/
theorem fold_mask (f : Edge → Nat) : ∀ (l : List Edge) (s x : Nat), (l.foldl (fun s e => cond (Region.binds .any e) (s ||| 2 ^ e.on ||| f e) s) s).testBit x = true → s.testBit x = true ∨ ∃ e ∈ l, Region.binds .any e = true ∧ (x = e.on ∨ (f e).testBit x = true)
  | [], s, x, h => .inl h
  | e :: l, s, x, h => by
    rw [List.foldl_cons] at h
    rcases fold_mask f l _ x h with h1 | ⟨e', h1, h2⟩
    · cases hb : Region.binds .any e with
      | false => rw [hb, cond_false] at h1; exact .inl h1
      | true =>
        rw [hb, cond_true] at h1
        rw [Nat.testBit_or, Nat.testBit_or, Bool.or_eq_true, Bool.or_eq_true] at h1
        rcases h1 with (h1 | h1) | h1
        · exact .inl h1
        · rw [Nat.testBit_two_pow] at h1
          exact .inr ⟨e, by simp, hb, .inl (of_decide_eq_true h1).symm⟩
        · exact .inr ⟨e, by simp, hb, .inr h1⟩
    · exact .inr ⟨e', by simp [h1], h2⟩
/-- closed downwards -/
def Down (ops : List Oper) (L : Nat → Prop) : Prop := ∀ j, L j → ∀ o, ops[j]? = some o → ∀ e ∈ o.after.toList, Region.binds .any e = true → L e.on
theorem masks_step (ops0 : List Oper) : ∀ (l : List Oper) (acc : List Nat) (pre : List Oper), ops0 = pre ++ l → acc.length = pre.length →
    (∀ i x, (acc.getD i 0).testBit x = true → ∀ L, Down ops0 L → (∀ o, ops0[i]? = some o → ∀ e ∈ o.after.toList, Region.binds .any e = true → L e.on) → L x) →
    ∀ i x, ((l.foldl (fun acc o => acc ++ [o.after.toList.foldl (fun s e => cond (Region.binds .any e) (s ||| 2 ^ e.on ||| acc.getD e.on 0) s) 0]) acc).getD i 0).testBit x = true → ∀ L, Down ops0 L →
      (∀ o, ops0[i]? = some o → ∀ e ∈ o.after.toList, Region.binds .any e = true → L e.on) → L x
  | [], acc, pre, h1, h2, h3 => h3
  | o :: l, acc, pre, h1, h2, h3 => by
    rw [List.foldl_cons]
    refine masks_step ops0 l _ (pre ++ [o]) (by rw [h1]; simp) (by simp [h2]) ?_
    intro i x hx L hd hi
    by_cases hlt : i < acc.length
    · rw [List.getD_eq_getElem?_getD, List.getElem?_append_left hlt, ← List.getD_eq_getElem?_getD] at hx
      exact h3 i x hx L hd hi
    · by_cases he : i = acc.length
      · subst he
        rw [List.getD_eq_getElem?_getD, List.getElem?_append_right (Nat.le_refl _), Nat.sub_self] at hx
        simp only [List.getElem?_cons_zero, Option.getD_some] at hx
        have hoi : ops0[acc.length]? = some o := by rw [h1, h2, List.getElem?_append_right (Nat.le_refl _), Nat.sub_self]; rfl
        rcases fold_mask (fun e => acc.getD e.on 0) _ _ _ hx with h4 | ⟨e, h4, h5, h6⟩
        · simp at h4
        · have hLe := hi o hoi e h4 h5
          rcases h6 with rfl | h6
          · exact hLe
          · exact h3 e.on x h6 L hd (fun o' ho' e' he' hb' => hd e.on hLe o' ho' e' he' hb')
      · rw [List.getD_eq_getElem?_getD, List.getElem?_eq_none (by simp; omega)] at hx
        simp at hx
theorem masks_ok (ops : List Oper) (i x : Nat) (hx : ((masks ops).getD i 0).testBit x = true) (L : Nat → Prop) (hd : Down ops L) (hi : ∀ o, ops[i]? = some o → ∀ e ∈ o.after.toList, Region.binds .any e = true → L e.on) : L x :=
  masks_step ops ops [] [] rfl rfl (fun i x h => by simp at h) i x hx L hd hi

/-! ### frames that read alike -/
def Alike (t t' : Tr) : Prop := ∀ i, t.get i = t'.get i
theorem Alike.ev {t t' : Tr} (h : Alike t t') (x : Operand) : ev t x = ev t' x := by cases x <;> first | rfl | exact h _
theorem guardV_congr {ops : Array Oper} {t t' : Tr} {o : Oper} (h : ∀ j want, o.guard = some (j, want) → ∀ d, ((ops[j]?).bind (·.dst)) = some d → t.get d = t'.get d) : guardV ops t o = guardV ops t' o := by
  unfold guardV
  split
  · rfl
  · rename_i j want hg
    split
    · rename_i d hd; rw [h j want hg d hd]
    · rfl
theorem plainB_congr {t t' : Tr} {op : Op} (h : ∀ x ∈ op.operands, ev t x = ev t' x) : plainB t op = plainB t' op := by
  cases op with
  | buildSlice ty n ps =>
    simp only [plainB]
    rw [Bool.eq_iff_iff, List.all_eq_true, List.all_eq_true]
    constructor
    · intro hh q hq; rw [← h q.2 (by simp only [Op.operands, List.mem_toArray, List.mem_map]; exact ⟨q, hq, rfl⟩)]; exact hh q hq
    · intro hh q hq; rw [h q.2 (by simp only [Op.operands, List.mem_toArray, List.mem_map]; exact ⟨q, hq, rfl⟩)]; exact hh q hq
  | _ => rfl
theorem flat_congr {t t' : Tr} {l : List Operand} (h : ∀ x ∈ l, ev t x = ev t' x) : (l.flatMap fun x => ids (ev t x)) = l.flatMap fun x => ids (ev t' x) := by
  induction l with
  | nil => rfl
  | cons x l ih => rw [List.flatMap_cons, List.flatMap_cons, h x (by simp), ih (fun y hy => h y (by simp [hy]))]
theorem readIds_congr {t t' : Tr} {o : Oper} (h : ∀ x ∈ o.op.operands, ev t x = ev t' x) : readIds t o = readIds t' o := by
  unfold readIds
  rw [flat_congr (fun x hx => h x (by simpa using hx))]
theorem readR_congr {t t' : Tr} {o : Oper} (h : ∀ x ∈ o.op.operands, ev t x = ev t' x) : readR t o = readR t' o := by
  unfold readR
  rw [readIds_congr h]
  congr 1
  cases ho : o.op <;> rw [ho] at h <;> first | rfl | skip
  case load ty x => simp only; rw [h x (by simp [Op.operands])]
/-- an operation gives the same value and memory where its operands and its guard are the same -/
theorem opG_congr {P : Program} {run : FuncId → List AV → List Blk → Option (AV × List Blk)} {M : Mode} {mask : Nat} {pend : Pend} {ops : Array Oper} {o : Oper} {t t' t1 : Tr} {hp hp1 : List Blk}
    (hx : ∀ x ∈ o.op.operands, ev t x = ev t' x) (hg : ∀ j want, o.guard = some (j, want) → ∀ d, ((ops[j]?).bind (·.dst)) = some d → t.get d = t'.get d) (h : opG P run M mask pend ops o t hp = some (t1, hp1)) :
    ∃ v, t1 = putV t o.dst v ∧ opG P run M mask pend ops o t' hp = some (putV t' o.dst v, hp1) := by
  unfold opG at h ⊢
  rw [← guardV_congr (t := t) hg, ← plainB_congr (t := t) hx, ← vop_congr (t := t) hx, ← flat_congr (t := t) (l := o.op.operands.toList) (fun x hx' => hx x (by simpa using hx'))]
  split at h
  · cases h
  · cases h; exact ⟨_, rfl, rfl⟩
  · split at h
    · cases h
    · rename_i v hp2 hv
      by_cases hq : (!(writes o.op) || pendC P mask pend (o.op.operands.toList.flatMap fun x => ids (ev t x)) hp hp2) = true
      · rw [hq, cond_true] at h
        cases h
        exact ⟨v, rfl, by simp only [hq, cond_true]⟩
      · rw [Bool.eq_false_iff.2 hq, cond_false] at h; cases h
    · split at h
      · cases h
      · rename_i f args _ v hp2 hc
        cases h
        exact ⟨v, rfl, by simp only⟩
end Go.Vm
