/- The quick way in the cheaper form: regions, code, functions. -/
import Derived.Test.YtlemialjfnbchaaGreatVmZc

namespace Go.Vm
open Go
section
variable (P : Program) (run : FuncId → List AV → List Blk → Option (AV × List Blk)) (M : Mode) (ops : Array Oper)
def finK : KS := fun t hp => some (t, hp)
noncomputable def stepC (q : Q) (ih : KS) (t : Tr) (hp : List Blk) : QR := opC q.f ih (contQ ih (opVq P run M ops q.o t hp)) t hp
noncomputable def opsC (l : List Q) : KS := List.rec (motive := fun _ => KS) finK (fun q _ ih => stepC P run M ops q ih) l
theorem opsC_eq : ∀ (l : List Q) (t : Tr) (hp : List Blk), opsC P run M ops l t hp = opsQ P run M ops l t hp
  | [], t, hp => rfl
  | q :: l, t, hp => by
    show stepC P run M ops q (opsC P run M ops l) t hp = stepQ P run M ops (opsQ P run M ops l) q t hp
    have ih : opsC P run M ops l = opsQ P run M ops l := funext fun t => funext fun hp => opsC_eq l t hp
    unfold stepC stepQ
    rw [opC_eq, opVq_eq, ih]
    cases evF q.f t hp with
    | none => rfl
    | some r => obtain ⟨t', hp'⟩ := r; exact (fr_eq (fun t'' => opsQ P run M ops l t'' hp') t').symm
structure PQ where
  i : Nat
  o : Oper
  f : QF
  m : Nat
def plq (ms : List Nat) : List Nat → Option (List PQ)
  | [] => some []
  | i :: r => match ops[i]?, plq ms r with
    | some o, some l => some (⟨i, o, cond (isSt (qf P o)) .gen (qf P o), ms.getD i 0⟩ :: l)
    | _, _ => none
noncomputable def pstC (q : PQ) (ih : Pend → KS) (pend : Pend) (t : Tr) (hp : List Blk) : QR :=
  opC q.f (ih ((q.i, readR t q.o) :: pend)) (contQ (ih ((q.i, readR t q.o) :: pend)) (opGq P run M q.m pend ops q.o t hp)) t hp
noncomputable def planC (l : List PQ) : Pend → KS := List.rec (motive := fun _ => Pend → KS) (fun _ => finK) (fun q _ ih => pstC P run M ops q ih) l
theorem planC_eq (ms : List Nat) : ∀ (l : List Nat) (l' : List PQ), plq P ops ms l = some l' → ∀ (pend : Pend) (t : Tr) (hp : List Blk), planC P run M ops l' pend t hp = planQ P run M ops ms l pend t hp
  | [], l', h, pend, t, hp => by
    simp only [plq] at h
    cases h; rfl
  | i :: l, l', h, pend, t, hp => by
    simp only [plq] at h
    split at h
    · rename_i o l2 ho hl
      cases h
      have ih := planC_eq ms l l2 hl
      show pstC P run M ops _ (planC P run M ops l2) pend t hp = _
      unfold pstC
      rw [opC_eq, opGq_eq]
      simp only [planQ, ho]
      cases hs : isSt (qf P o) with
      | true =>
        simp only [cond_true]
        show contQ _ (opG P run M (ms.getD i 0) pend ops o t hp) = _
        cases opG P run M (ms.getD i 0) pend ops o t hp with
        | none => rfl
        | some r => obtain ⟨t', hp'⟩ := r; rw [contQ_some]; exact ih _ _ _
      | false =>
        simp only [cond_false]
        cases evF (qf P o) t hp with
        | none =>
          show contQ _ (opG P run M (ms.getD i 0) pend ops o t hp) = _
          cases opG P run M (ms.getD i 0) pend ops o t hp with
          | none => rfl
          | some r => obtain ⟨t', hp'⟩ := r; rw [contQ_some]; exact ih _ _ _
        | some r => obtain ⟨t', hp'⟩ := r; exact ih _ _ _
    · cases h
noncomputable def plR (t : Tr) (hp : List Blk) (l : Option (List PQ)) : QR := Option.rec (motive := fun _ => QR) none (fun l => planC P run M ops l [] t hp) l
def orQ (r g : QR) : QR := match r with | some q => some q | none => g
noncomputable def regC (N : Nat) (draw : Bool) (t : Tr) (hp : List Blk) : QR :=
  cond (dstsOk N ops)
    (cond draw (orQ (cond (P.follows .mixedOrders && planOk ops (planOf ops)) (plR P run M ops t hp (plq P ops (masks ops.toList) (planOf ops))) none) (regV P run M N ops true t hp)) (opsC P run M ops (qs P ops.toList) t hp)) none
/-- what it gives, the other gives -/
theorem regC_ok {N : Nat} {draw : Bool} {t : Tr} {hp : List Blk} {r : Tr × List Blk} (h : regC P run M ops N draw t hp = some r) : regV P run M N ops draw t hp = some r := by
  unfold regC at h
  cases hd : dstsOk N ops with
  | false => rw [hd] at h; cases h
  | true =>
    rw [hd, cond_true] at h
    cases draw with
    | false =>
      rw [cond_false, opsC_eq] at h
      exact regQ_ok (by unfold regQ; rw [hd, cond_true, cond_false]; exact h)
    | true =>
      rw [cond_true] at h
      unfold orQ at h
      split at h
      · rename_i q hq
        cases h
        cases hp2 : (P.follows .mixedOrders && planOk ops (planOf ops)) with
        | false => rw [hp2] at hq; cases hq
        | true =>
          rw [hp2, cond_true] at hq
          cases hl : plq P ops (masks ops.toList) (planOf ops) with
          | none => rw [hl] at hq; cases hq
          | some l =>
            rw [hl] at hq
            have hq' : planC P run M ops l [] t hp = some r := hq
            rw [planC_eq P run M ops _ _ _ hl] at hq'
            exact regQ_ok (by unfold regQ; rw [hd, cond_true, cond_true, hp2, cond_true, hq'])
      · exact h
end
/-! code -/
abbrev FX := Ex → Tr → List Blk → XR
noncomputable def pX (p : Tr × List Blk) : Ex → FX → XR := Prod.rec (motive := fun _ => Ex → FX → XR) (fun t hp x f => f x t hp) p
noncomputable def qX (p : Ex × Tr × List Blk) : FX → XR := Prod.rec (motive := fun _ => FX → XR) (fun x q f => pX q x f) p
noncomputable def optX (r : XR) : FX → XR := Option.rec (motive := fun _ => FX → XR) (fun _ => none) (fun p f => qX p f) r
theorem optX_some (x : Ex) (t : Tr) (hp : List Blk) (f : FX) : optX (some (x, t, hp)) f = f x t hp := rfl
noncomputable def exJ (x : Ex) : XR → (Nat → XR) → XR → XR := Ex.rec (motive := fun _ => XR → (Nat → XR) → XR → XR) (fun a _ _ => a) (fun id _ b _ => b id) (fun _ _ _ c => c) (fun _ _ c => c) x
noncomputable def seqK (ih : XF) (b : Code) (x : Ex) (t : Tr) (hp : List Blk) : XR := exJ x (ih b t hp) (fun _ => some (x, t, hp)) (some (x, t, hp))
noncomputable def blkK (id : Nat) (x : Ex) (t : Tr) (hp : List Blk) : XR := exJ x (some (x, t, hp)) (fun id' => cond (Nat.beq id' id) (some (.nrm, t, hp)) (some (x, t, hp))) (some (x, t, hp))
theorem seqK_eq (ih : XF) (b : Code) (r : XR) : optX r (seqK ih b) = seqX ih b r := by
  cases r with
  | none => rfl
  | some q => obtain ⟨x, t, hp⟩ := q; cases x <;> rfl
theorem blkK_eq (id : Nat) (r : XR) : optX r (blkK id) = blockX id r := by
  cases r with
  | none => rfl
  | some q => obtain ⟨x, t, hp⟩ := q; cases x <;> rfl
noncomputable def prC (p : Tr × List Blk) : XR := Prod.rec (motive := fun _ => XR) (fun t hp => some (.nrm, t, hp)) p
noncomputable def regXC (r : QR) : XR := Option.rec (motive := fun _ => XR) none (fun p => prC p) r
theorem regXC_eq (r : QR) : regXC r = regX r := by
  cases r with
  | none => rfl
  | some q => rfl
noncomputable def conX (v : AV) (a b : XR) : XR := AV.rec (motive_1 := fun _ => XR → XR → XR) (motive_2 := fun _ => Unit)
  (fun v => Value.rec (motive_1 := fun _ => XR → XR → XR) (motive_2 := fun _ => Unit) (motive_3 := fun _ => Unit)
    (fun q a b => cond q a b) (fun _ _ _ _ => none) (fun _ _ _ _ => none) (fun _ _ _ _ _ => none) (fun _ _ _ => none) (fun _ _ _ => none) (fun _ _ _ _ _ => none) (fun _ _ _ => none) (fun _ _ _ => none) (fun _ _ _ _ _ _ _ => none) (fun _ _ => none) (fun _ _ _ _ _ => none) (fun _ _ => none) (fun _ _ _ _ => none) (fun _ _ _ _ => none) (fun _ _ => ()) () (fun _ _ _ _ => ()) v)
  (fun _ _ _ _ _ => none) (fun _ _ _ _ _ => none) (fun _ _ _ _ _ => none) (fun _ _ _ _ _ _ => none) (fun _ _ _ _ _ => none) (fun _ _ _ _ => none) (fun _ _ _ _ => none) (fun _ _ _ _ _ _ _ => none) (fun _ _ _ _ _ => none) (fun _ _ _ _ => none) (fun _ _ => none) (fun _ _ => none) () (fun _ _ _ _ => ()) v a b
theorem conX_eq (ih : XF) (a b : Code) (t : Tr) (hp : List Blk) (v : AV) : conX v (ih a t hp) (ih b t hp) = condX ih a b t hp v := by
  cases v with
  | p u => cases u <;> rfl
  | _ => rfl
noncomputable def evXC (t : Tr) (x : Operand) : AV := cond (small x) (evC (qo x) t) (ev t x)
section
variable (P : Program) (run : FuncId → List AV → List Blk → Option (AV × List Blk)) (M : Mode)
noncomputable def yReg (N : Nat) (ops : Array Oper) (draw : Bool) (t : Tr) (hp : List Blk) : XR := regXC (regC P run M ops N draw t hp)
noncomputable def ySeq (ih : XF) (a b : Code) (t : Tr) (hp : List Blk) : XR := optX (ih a t hp) (seqK ih b)
noncomputable def yCond (ih : XF) (x : Operand) (a b : Code) (t : Tr) (hp : List Blk) : XR := conX (evXC t x) (ih a t hp) (ih b t hp)
noncomputable def yBlock (ih : XF) (id : Nat) (a : Code) (t : Tr) (hp : List Blk) : XR := optX (ih a t hp) (blkK id)
noncomputable def yLoop (ih : XF) (a : Code) (t : Tr) (hp : List Blk) : XR := optX (ih a t hp) (seqK ih (.loop a))
def yExit (id : Nat) (t : Tr) (hp : List Blk) : XR := some (.exit id, t, hp)
def yGoto (l : Nat) (t : Tr) (hp : List Blk) : XR := some (.goto l, t, hp)
def yRet (t : Tr) (hp : List Blk) : XR := some (.ret, t, hp)
def yNo (_t : Tr) (_hp : List Blk) : XR := none
abbrev BF := Nat → Nat → XF → Tr → List Blk → XR
noncomputable def bodyC (c : Code) : BF :=
  Code.rec (motive := fun _ => BF)
    (fun _ _ _ => xNrm)
    (fun _ ops draw N _ _ => yReg P run M N ops draw)
    (fun a b _ _ _ _ ih => ySeq ih a b)
    (fun x a b _ _ _ _ ih => yCond ih x a b)
    (fun id a _ _ _ ih => yBlock ih id a)
    (fun a _ _ _ ih => yLoop ih a)
    (fun g ps c1 c2 _ _ N n _ => xRange P run M N n g ps c1 c2)
    (fun id _ _ _ => yExit id)
    (fun a _ _ n ih => xScope n ih a)
    (fun _ _ _ _ => xNrm)
    (fun l _ _ _ => yGoto l)
    (fun _ _ _ => yRet)
    (fun _ _ _ _ => yNo) c
noncomputable def exC (N n : Nat) : XF := Nat.rec (motive := fun _ => XF) (fun _ _ _ => none) (fun n ih c => bodyC P run M c N n ih) n
end
theorem evXC_eq (t : Tr) (x : Operand) : evXC t x = ev t x := by
  unfold evXC
  rw [evC_eq]
  exact evX_eq t x
section
variable {P : Program} {run : FuncId → List AV → List Blk → Option (AV × List Blk)} {M : Mode}
theorem exC_ok {N : Nat} : ∀ (n : Nat) (c : Code) (t : Tr) (hp : List Blk) (r : Ex × Tr × List Blk), exC P run M N n c t hp = some r → exV P run M N n c t hp = some r
  | 0, c, t, hp, r, h => by cases h
  | n + 1, c, t, hp, r, h => by
    have h' : bodyC P run M c N n (exC P run M N n) t hp = some r := h
    have ih := fun c t hp r => exC_ok (N := N) n c t hp r
    have sq : ∀ (a b : Code), seqX (exC P run M N n) b (exC P run M N n a t hp) = some r → (match exV P run M N n a t hp with | some (.nrm, t', hp') => exV P run M N n b t' hp' | r => r) = some r := by
      intro a b h
      cases h1 : exC P run M N n a t hp with
      | none => rw [h1] at h; cases h
      | some q =>
        rw [h1] at h
        rw [ih a t hp q h1]
        obtain ⟨x, t', hp'⟩ := q
        cases x <;> first | exact h | exact ih b t' hp' r h
    unfold exV
    cases c
    case skip => exact h'
    case label l => exact h'
    case region id ops draw =>
      have h2 : regXC (regC P run M ops N draw t hp) = some r := h'
      rw [regXC_eq] at h2
      cases h1 : regC P run M ops N draw t hp with
      | none => rw [h1] at h2; cases h2
      | some q =>
        rw [h1] at h2
        simp only [regC_ok P run M ops h1]
        exact h2
    case seq a b => exact sq a b ((seqK_eq _ _ _).symm.trans h')
    case cond x a b =>
      have h2 : conX (evXC t x) (exC P run M N n a t hp) (exC P run M N n b t hp) = some r := h'
      rw [conX_eq (exC P run M N n), evXC_eq] at h2
      unfold condX at h2
      simp only
      split at h2
      · rename_i v hv
        rw [hv]
        simp only
        cases v with
        | true => exact ih _ _ _ _ h2
        | false => exact ih _ _ _ _ h2
      · cases h2
    case block id a =>
      have h2 : blockX id (exC P run M N n a t hp) = some r := (blkK_eq _ _).symm.trans h'
      cases h1 : exC P run M N n a t hp with
      | none => rw [h1] at h2; cases h2
      | some q =>
        rw [h1] at h2
        simp only [ih a t hp q h1]
        obtain ⟨x, t', hp'⟩ := q
        cases x <;> exact h2
    case loop a => exact sq a (.loop a) ((seqK_eq _ _ _).symm.trans h')
    case exit id => exact h'
    case goto l => exact h'
    case scope a => exact scopeR_mono ih a n a t hp r h'
    case ret => exact h'
    case rangeFunc g ps c1 c2 =>
      have h2 : rangeX t (rangeE P run M N n g ps c1 c2 t hp) = some r := h'
      cases h1 : rangeE P run M N n g ps c1 c2 t hp with
      | none => rw [h1] at h2; cases h2
      | some q =>
        rw [h1] at h2
        obtain ⟨q, hp2⟩ := q
        cases q <;> (simp only [h1]; exact h2)
    all_goals cases h'
end
/-! functions -/
abbrev RF := FuncId → List AV → List Blk → Option (AV × List Blk)
def ovR (F : Option (List AV → List Blk → Option (AV × List Blk))) (args : List AV) (hp : List Blk) (g : Option (AV × List Blk)) : Option (AV × List Blk) := match F with | some F => F args hp | none => g
def runOv (M : Mode) (ih : RF) : RF := fun f args hp => ovR (M.ov f) args hp (ih f args hp)
noncomputable def runB (P : Program) (M : Mode) (n : Nat) (ih : RF) (f : FuncId) (args : List AV) (hp : List Blk) : Option (AV × List Blk) :=
  match P.funcs[f]? with
  | none => none
  | some fn =>
    match fn.body with
    | none => none
    | some c =>
      cond (Nat.blt (Nat.max args.length fn.ntmps) 16383)
        (resC P hp.length fn.results.toList (exC P (runOv M ih) M (Nat.max args.length fn.ntmps) n c (frameOf 0 args .lf) hp)) none
noncomputable def runC (P : Program) (M : Mode) (n : Nat) : RF := Nat.rec (motive := fun _ => RF) (fun _ _ _ => none) (fun n ih => runB P M n ih) n
theorem runC_ok {P : Program} {M : Mode} (hov : ∀ f F, M.ov f = some F → ∀ args hp r hp', F args hp = some (r, hp') → FnOk P f args hp r hp') : ∀ n, RunOk P (runC P M n)
  | 0 => fun f args hp r hp' h => by cases h
  | n + 1 => fun f args hp r hp' h => by
    have ih := runC_ok hov n
    have hrun : RunOk P (runOv M (runC P M n)) := by
      intro f args hp r hp' h
      unfold runOv ovR at h
      split at h
      · rename_i F hF; exact hov f F hF args hp r hp' h
      · exact ih f args hp r hp' h
    have h2 : runB P M n (runC P M n) f args hp = some (r, hp') := h
    clear h
    rename _ => h
    unfold runB at h
    split at h
    · cases h
    · rename_i fn hfn
      split at h
      · cases h
      · rename_i c hbody
        cases hN : Nat.blt (Nat.max args.length fn.ntmps) 16383 with
        | false => rw [hN] at h; cases h
        | true =>
          rw [hN, cond_true] at h
          have hN' : Nat.max args.length fn.ntmps < 16383 := Nat.le_of_ble_eq_true hN
          have fin : ∀ (x : Ex) (t : Tr) (hp1 : List Blk), (x = .nrm ∨ x = .ret) → exC P (runOv M (runC P M n)) M (Nat.max args.length fn.ntmps) n c (frameOf 0 args .lf) hp = some (x, t, hp1) →
              (match resV P t hp1 fn.results.toList with | some [v] => gcV hp.length v hp1 | some vs => gcV hp.length (.tup vs) hp1 | none => none) = some (r, hp') → FnOk P f args hp r hp' := by
            intro x t hp1 hx hex hres
            refine fn_of_tri hfn hbody hN' ?_
            intro W0 O S0 m0 a w _ hs
            refine wp_mono ((exV_both hrun hN' n).1 c _ hp x t hp1 a w (exC_ok n _ _ _ _ hex) hs) ?_
            rintro e a1 w1 ⟨rfl, hs1⟩
            exact ⟨x, t, hp1, rfl, ⟨hx, hres⟩, hs1⟩
          rw [resC_eq] at h
          unfold resQ at h
          split at h
          · rename_i t hp1 hex; exact fin .nrm t hp1 (.inl rfl) hex h
          · rename_i t hp1 hex; exact fin .ret t hp1 (.inr rfl) hex h
          · cases h
end Go.Vm
