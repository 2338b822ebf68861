/- Regions that draw their order: what commutes. -/
import Derived.Test.YtlemialjfnbchaaGreatVmC

namespace Go.Vm
open Go

/-! ### an operation asks its operands alone -/
theorem allConc_congr {t t' : Tr} : ∀ {l : List Operand}, (∀ x ∈ l, ev t x = ev t' x) → allConc t l = allConc t' l
  | [], _ => rfl
  | x :: l, h => by
    simp only [allConc]
    rw [h x (by simp), allConc_congr (fun y hy => h y (by simp [hy]))]
theorem map_congr_ev {t t' : Tr} {l : List Operand} (h : ∀ x ∈ l, ev t x = ev t' x) : l.map (ev t) = l.map (ev t') := List.map_congr_left h
theorem pure1_congr {P : Program} {t t' : Tr} {hp : List Blk} {o : Oper} (h : ∀ x ∈ o.op.operands, ev t x = ev t' x) : pure1 P t hp o = pure1 P t' hp o := by
  unfold pure1
  rw [allConc_congr (fun x hx => h x (by simpa using hx))]
  cases hs : (noSel o.op && allConc t' o.op.operands.toList) with
  | false => rfl
  | true =>
    rw [Bool.and_eq_true] at hs
    have : execOp (rho t) o = execOp (rho t') o := execOp_congr o (fun cs b e => by rw [e] at hs; simp [noSel] at hs) (fun x hx => by unfold rho; rw [h x hx])
    rw [this]
theorem opt_congr {t t' : Tr} {x : Option Operand} (h : ∀ y, x = some y → ev t y = ev t' y) : x.map (ev t) = x.map (ev t') := by
  cases x with
  | none => rfl
  | some y => simp [h y rfl]
theorem vop_congr {P : Program} {t t' : Tr} {hp : List Blk} {o : Oper} (h : ∀ x ∈ o.op.operands, ev t x = ev t' x) : vop P o t hp = vop P o t' hp := by
  have hp1 := pure1_congr (P := P) (hp := hp) h
  unfold vop
  cases ho : o.op <;> rw [ho] at h <;> simp only <;> (try rw [hp1])
  case move x => rw [h x (by simp [Op.operands])]
  case assign x => rw [h x (by simp [Op.operands])]
  case pick c x y => rw [h c (by simp [Op.operands]), h x (by simp [Op.operands]), h y (by simp [Op.operands])]
  case box e x => rw [h x (by simp [Op.operands])]
  case build ty ps =>
    have : (ps.toList.map fun (i, x) => (i, ev t x)) = (ps.toList.map fun (i, x) => (i, ev t' x)) :=
      List.map_congr_left (fun q hq => by
        obtain ⟨i, x⟩ := q
        simp only
        rw [h x (by simp only [Op.operands, List.mem_toArray, List.mem_map]; exact ⟨(i, x), hq, rfl⟩)])
    rw [this]
  case buildSlice ty n ps =>
    have : (ps.toList.map fun (_, x) => ev t x) = (ps.toList.map fun (_, x) => ev t' x) :=
      List.map_congr_left (fun q hq => by
        obtain ⟨i, x⟩ := q
        simp only
        rw [h x (by simp only [Op.operands, List.mem_toArray, List.mem_map]; exact ⟨(i, x), hq, rfl⟩)])
    rw [this]
  case load ty x => rw [h x (by simp [Op.operands])]
  case store ty x y => rw [h x (by simp [Op.operands]), h y (by simp [Op.operands])]
  case nilCheck x => rw [h x (by simp [Op.operands])]
  case binOp op ty x y z =>
    cases op <;> simp only <;> rw [h x (by simp [Op.operands]), h y (by simp [Op.operands])]
  case convert s d x => rw [h x (by simp [Op.operands])]
  case makeInterface ty x => rw [h x (by simp [Op.operands])]
  case makeFunc f x y =>
    rw [map_congr_ev (fun z hz => h z (by simp only [Op.operands]; simp; left; simpa using hz)), map_congr_ev (fun z hz => h z (by simp only [Op.operands]; simp; right; simpa using hz))]
  case makeSlice ty x y => rw [h x (by simp [Op.operands]), h y (by simp [Op.operands])]
  case makeMap ty r => rw [opt_congr (x := r) (fun y hy => h y (by subst hy; simp [Op.operands]))]
  case lookup ty x k ok => rw [h x (by simp [Op.operands]), h k (by simp [Op.operands])]
  case mapUpdate ty x k y => rw [h x (by simp [Op.operands]), h k (by simp [Op.operands]), h y (by simp [Op.operands])]
  case slice ty x lo hi mx =>
    rw [h x (by simp [Op.operands]), opt_congr (x := lo) (fun y hy => h y (by subst hy; simp [Op.operands])), opt_congr (x := hi) (fun y hy => h y (by subst hy; simp [Op.operands])), opt_congr (x := mx) (fun y hy => h y (by subst hy; simp [Op.operands]))]
  case fieldAddr s x f => rw [h x (by simp [Op.operands])]
  case field s x f => rw [h x (by simp [Op.operands])]
  case indexAddr ty x y => rw [h x (by simp [Op.operands]), h y (by simp [Op.operands])]
  case extract x i => rw [h x (by simp [Op.operands])]
  case call c =>
    have hargs : ∀ x ∈ c.args.toList, ev t x = ev t' x := fun x hx => h x (by simp only [Op.operands, Call.operands]; simp; right; simpa using hx)
    cases hc : c.callee with
    | value f =>
      have hf : ev t f = ev t' f := h f (by simp [Op.operands, Call.operands, hc])
      simp only
      rw [hf, map_congr_ev hargs]
    | invoke r nm => rfl
    | builtin b =>
      cases b <;> simp only
      case append =>
        split
        · rename_i s x st xt e1 e2
          rw [hargs s (by rw [e1]; simp), hargs x (by rw [e1]; simp)]
        · rfl
      case len =>
        split
        · rename_i x ty e1 e2
          rw [hargs x (by rw [e1]; simp)]
        · rfl
      case delete =>
        split
        · rename_i x k ty kt e1 e2
          rw [hargs x (by rw [e1]; simp), hargs k (by rw [e1]; simp)]
        · rfl
      case clear =>
        split
        · rename_i x ty e1 e2
          rw [hargs x (by rw [e1]; simp)]
        · rfl
      case copy =>
        split
        · rename_i x y dt st e1 e2
          rw [hargs x (by rw [e1]; simp), hargs y (by rw [e1]; simp)]
        · rfl
end Go.Vm
