/- Runs of the virtual memory along one path: values that are taken to be such and such, and what must hold for it. -/
import Derived.Test.YtlemialjfnbchaaGreatVmF

namespace Go.Vm
open Go

theorem Tr.setF_setF (d : Nat) : ∀ (t : Tr) (i : Nat) (u v : AV), i + 1 < 2 ^ d → Tr.setF d (Tr.setF d t i u) i v = Tr.setF d t i v := by
  induction d with
  | zero => intro t i u v h; simp at h
  | succ d ih =>
    intro t i u v h
    have hp : (2 : Nat) ^ (d + 1) = 2 * 2 ^ d := by rw [Nat.pow_succ]; omega
    rcases split3 i with rfl | ⟨a, rfl⟩ | ⟨a, rfl⟩
    · cases t <;> rfl
    · have hi : a + 1 < 2 ^ d := by omega
      cases t with
      | lf => rw [Tr.setF_lf_odd, Tr.setF_nd_odd, ih _ _ _ _ hi, Tr.setF_lf_odd]
      | nd l x r => rw [Tr.setF_nd_odd, Tr.setF_nd_odd, ih _ _ _ _ hi, Tr.setF_nd_odd]
    · have hi : a + 1 < 2 ^ d := by omega
      cases t with
      | lf => rw [Tr.setF_lf_even, Tr.setF_nd_even, ih _ _ _ _ hi, Tr.setF_lf_even]
      | nd l x r => rw [Tr.setF_nd_even, Tr.setF_nd_even, ih _ _ _ _ hi, Tr.setF_nd_even]
theorem Tr.set_set (t : Tr) (i : Nat) (u v : AV) (h : i < 16383) : (t.set i u).set i v = t.set i v := by
  unfold Tr.set
  exact Tr.setF_setF 14 t i u v (by omega)

abbrev St := List (Nat × AV) × List (AV × AV)
def concO (o : Oper) (t : Tr) : St → Tr × St
  | ([], cs) => (t, ([], cs))
  | ((g, u) :: r, cs) => match g with
    | 0 => (match o.dst with
      | some d => (t.set d u, (r, (t.get d, u) :: cs))
      | none => (t, (r, cs)))
    | g + 1 => (t, ((g, u) :: r, cs))
def Hold (cs : List (AV × AV)) : Prop := ∀ c ∈ cs, c.1 = c.2

section
variable (P : Program) (run : FuncId → List AV → List Blk → Option (AV × List Blk)) (M : Mode)
def opsO (ops : Array Oper) : List Oper → Tr → List Blk → St → Option (Tr × List Blk × St)
  | [], t, hp, st => some (t, hp, st)
  | o :: l, t, hp, st => match opV P run M ops o t hp with
    | some (t1, hp1) => (match concO o t1 st with | (t2, st2) => opsO ops l t2 hp1 st2)
    | none => none
def planO (ops : Array Oper) (ms : List Nat) : List Nat → Pend → Tr → List Blk → St → Option (Tr × List Blk × St)
  | [], _, t, hp, st => some (t, hp, st)
  | i :: r, pend, t, hp, st => match ops[i]? with
    | none => none
    | some o => match opG P run M (ms.getD i 0) pend ops o t hp with
      | some (t1, hp1) => (match concO o t1 st with | (t2, st2) => planO ops ms r ((i, readR t o) :: pend) t2 hp1 st2)
      | none => none
def regO (N : Nat) (ops : Array Oper) (draw : Bool) (t : Tr) (hp : List Blk) (st : St) : Option (Tr × List Blk × St) :=
  cond (dstsOk N ops)
    (cond draw (cond (P.follows .mixedOrders && planOk ops (planOf ops)) (planO P run M ops (masks ops.toList) (planOf ops) [] t hp st) none) (opsO P run M ops ops.toList t hp st)) none
def scopeO (ex : Code → Tr → List Blk → St → Option (Ex × Tr × List Blk × St)) (a : Code) : Nat → Code → Tr → List Blk → St → Option (Ex × Tr × List Blk × St)
  | 0, _, _, _, _ => none
  | k + 1, c, t, hp, st =>
    match ex c t hp st with
    | some (.goto l, t', hp', st') => (match findLabel a l with
      | some rest => scopeO ex a k rest t' hp' st'
      | none => some (.goto l, t', hp', st'))
    | r => r
def exO (N : Nat) : Nat → Code → Tr → List Blk → St → Option (Ex × Tr × List Blk × St)
  | 0, _, _, _, _ => none
  | n + 1, c, t, hp, st =>
    match c with
    | .skip | .label _ => some (.nrm, t, hp, st)
    | .region _ ops draw => (match regO P run M N ops draw t hp st with | some (t', hp', st') => some (.nrm, t', hp', st') | none => none)
    | .seq a b => (match exO N n a t hp st with
      | some (.nrm, t', hp', st') => exO N n b t' hp' st'
      | r => r)
    | .cond x a b => (match ev t x with
      | .p (.bool v) => cond v (exO N n a t hp st) (exO N n b t hp st)
      | _ => none)
    | .block id a => (match exO N n a t hp st with
      | some (.exit id', t', hp', st') => cond (Nat.beq id' id) (some (.nrm, t', hp', st')) (some (.exit id', t', hp', st'))
      | r => r)
    | .loop a => (match exO N n a t hp st with
      | some (.nrm, t', hp', st') => exO N n (.loop a) t' hp' st'
      | r => r)
    | .exit id => some (.exit id, t, hp, st)
    | .goto l => some (.goto l, t, hp, st)
    | .scope a => scopeO (exO N n) a n a t hp st
    | .ret => some (.ret, t, hp, st)
    | _ => none
def runO (n : Nat) (f : FuncId) (args : List AV) (hp : List Blk) (orc : List (Nat × AV)) : Option (AV × List Blk × List (AV × AV)) :=
  match n with
  | 0 => none
  | n + 1 =>
    match P.funcs[f]? with
    | none => none
    | some fn =>
      match fn.body with
      | none => none
      | some c =>
        cond (!(Nat.blt (Nat.max args.length fn.ntmps) 16383)) none <|
        match exO P (fun f args hp => match M.ov f with | some F => F args hp | none => runV P M n f args hp) M (Nat.max args.length fn.ntmps) n c (frameOf 0 args .lf) hp (orc, []) with
        | some (.nrm, t, hp', st) | some (.ret, t, hp', st) =>
          (match resV P t hp' fn.results.toList with
           | some [v] => (match gcV hp.length v hp' with | some (r, hp2) => some (r, hp2, st.2) | none => none)
           | some vs => (match gcV hp.length (.tup vs) hp' with | some (r, hp2) => some (r, hp2, st.2) | none => none)
           | none => none)
        | _ => none
end

section
variable {P : Program} {run : FuncId → List AV → List Blk → Option (AV × List Blk)} {M : Mode}

theorem opV_put {ops : Array Oper} {o : Oper} {t t1 : Tr} {hp hp1 : List Blk} (h : opV P run M ops o t hp = some (t1, hp1)) : ∃ v, t1 = putV t o.dst v := by
  unfold opV at h
  split at h
  · cases h
  · cases h; exact ⟨_, rfl⟩
  · split at h
    · cases h
    · cases h; exact ⟨_, rfl⟩
    · split at h
      · cases h
      · cases h; exact ⟨_, rfl⟩
theorem concO_ok {o : Oper} {t1 t2 : Tr} {v : AV} {t : Tr} {st st2 : St} (hd : ∀ d, o.dst = some d → d < 16383) (ht : t1 = putV t o.dst v) (h : concO o t1 st = (t2, st2)) : (∃ pre, st2.2 = pre ++ st.2) ∧ (Hold st2.2 → t2 = t1) := by
  unfold concO at h
  split at h
  · cases h; exact ⟨⟨[], rfl⟩, fun _ => rfl⟩
  · split at h
    · split at h
      · rename_i d hdst
        cases h
        refine ⟨⟨[_], rfl⟩, fun hh => ?_⟩
        have := hh _ (List.mem_cons_self ..)
        simp only at this
        rw [← this]
        subst ht
        rw [hdst]
        show ((t.set d v).set d ((t.set d v).get d)) = t.set d v
        rw [Tr.get_set t d d v (hd d hdst), if_pos rfl, Tr.set_set t d v v (hd d hdst)]
      · cases h; exact ⟨⟨[], rfl⟩, fun _ => rfl⟩
    · cases h; exact ⟨⟨[], rfl⟩, fun _ => rfl⟩
theorem Hold.tail {pre cs : List (AV × AV)} (h : Hold (pre ++ cs)) : Hold cs := fun c hc => h c (List.mem_append.2 (.inr hc))
/-- the state behind is one that goes on from the one ahead -/
def Later (st st' : St) : Prop := ∃ pre, st'.2 = pre ++ st.2
theorem Later.refl (st : St) : Later st st := ⟨[], rfl⟩
theorem Later.trans {a b c : St} (h : Later a b) (k : Later b c) : Later a c := by
  obtain ⟨p, h⟩ := h; obtain ⟨q, k⟩ := k; exact ⟨q ++ p, by rw [k, h, List.append_assoc]⟩
theorem Later.hold {a b : St} (h : Later a b) (hb : Hold b.2) : Hold a.2 := by
  obtain ⟨p, h⟩ := h; rw [h] at hb; exact hb.tail

theorem opsO_ok {ops : Array Oper} {t' : Tr} {hp' : List Blk} {st' : St} : ∀ (l : List Oper) (t : Tr) (hp : List Blk) (st : St), (∀ o ∈ l, ∀ d, o.dst = some d → d < 16383) → opsO P run M ops l t hp st = some (t', hp', st') → Later st st' ∧ (Hold st'.2 → opsV P run M ops l t hp = some (t', hp'))
  | [], t, hp, st, hd, h => by simp only [opsO] at h; cases h; exact ⟨Later.refl _, fun _ => rfl⟩
  | o :: l, t, hp, st, hd, h => by
    simp only [opsO] at h
    split at h
    · rename_i t1 hp1 h1
      obtain ⟨v, hv⟩ := opV_put h1
      obtain ⟨k1, k2⟩ := concO_ok (t2 := (concO o t1 st).1) (st2 := (concO o t1 st).2) (hd o (by simp)) hv rfl
      obtain ⟨q1, q2⟩ := opsO_ok l _ _ _ (fun o ho => hd o (by simp [ho])) h
      refine ⟨Later.trans k1 q1, fun hh => ?_⟩
      have := k2 (q1.hold hh)
      rw [this] at q2
      simp only [opsV, h1]
      exact q2 hh
    · cases h
theorem planO_ok {ops : Array Oper} {ms : List Nat} {t' : Tr} {hp' : List Blk} {st' : St} (hd : ∀ o ∈ ops.toList, ∀ d, o.dst = some d → d < 16383) : ∀ (l : List Nat) (pend : Pend) (t : Tr) (hp : List Blk) (st : St), planO P run M ops ms l pend t hp st = some (t', hp', st') →
    Later st st' ∧ (Hold st'.2 → planV P run M ops ms l pend t hp = some (t', hp'))
  | [], pend, t, hp, st, h => by simp only [planO] at h; cases h; exact ⟨Later.refl _, fun _ => rfl⟩
  | i :: l, pend, t, hp, st, h => by
    simp only [planO] at h
    split at h
    · cases h
    · rename_i o ho
      split at h
      · rename_i t1 hp1 h1
        obtain ⟨v, hv⟩ := opV_put (opG_opV h1)
        have hmem : o ∈ ops.toList := by
          obtain ⟨hlt, e⟩ := Array.getElem?_eq_some_iff.1 ho
          rw [← e]; simp
        obtain ⟨k1, k2⟩ := concO_ok (t2 := (concO o t1 st).1) (st2 := (concO o t1 st).2) (hd o hmem) hv rfl
        obtain ⟨q1, q2⟩ := planO_ok hd l _ _ _ _ h
        refine ⟨Later.trans k1 q1, fun hh => ?_⟩
        have := k2 (q1.hold hh)
        rw [this] at q2
        simp only [planV, ho, h1]
        exact q2 hh
      · cases h
theorem regO_ok {N : Nat} {ops : Array Oper} {draw : Bool} {t t' : Tr} {hp hp' : List Blk} {st st' : St} (hN : N < 16383) (h : regO P run M N ops draw t hp st = some (t', hp', st')) : Later st st' ∧ (Hold st'.2 → regV P run M N ops draw t hp = some (t', hp')) := by
  unfold regO at h
  unfold regV
  cases hds : dstsOk N ops with
  | false => rw [hds] at h; cases h
  | true =>
    have hd : ∀ o ∈ ops.toList, ∀ d, o.dst = some d → d < 16383 := fun o ho d e => Nat.lt_trans (dsts_ok hds o ho d e) hN
    rw [hds, cond_true] at h
    simp only [cond_true]
    cases draw with
    | false => exact opsO_ok _ _ _ _ hd h
    | true =>
      rw [cond_true] at h
      simp only [cond_true]
      cases hq : (P.follows .mixedOrders && planOk ops (planOf ops)) with
      | false => rw [hq] at h; cases h
      | true =>
        rw [hq, cond_true] at h
        rw [Bool.and_eq_true] at hq
        obtain ⟨k1, k2⟩ := planO_ok hd _ _ _ _ _ h
        exact ⟨k1, fun hh => by simp only [hq.1, hq.2, cond_true, k2 hh]⟩
def ExOk (ex : Code → Tr → List Blk → Option (Ex × Tr × List Blk)) (exo : Code → Tr → List Blk → St → Option (Ex × Tr × List Blk × St)) : Prop :=
  ∀ c t hp st x t' hp' st', exo c t hp st = some (x, t', hp', st') → Later st st' ∧ (Hold st'.2 → ex c t hp = some (x, t', hp'))
theorem scopeO_ok {ex : Code → Tr → List Blk → Option (Ex × Tr × List Blk)} {exo : Code → Tr → List Blk → St → Option (Ex × Tr × List Blk × St)} (hex : ExOk ex exo) (a : Code) {x : Ex} {t' : Tr} {hp' : List Blk} {st' : St} :
    ∀ (k : Nat) (c : Code) (t : Tr) (hp : List Blk) (st : St), scopeO exo a k c t hp st = some (x, t', hp', st') → Later st st' ∧ (Hold st'.2 → scopeR ex a k c t hp = some (x, t', hp'))
  | 0, c, t, hp, st, h => by simp [scopeO] at h
  | k + 1, c, t, hp, st, h => by
    unfold scopeO at h
    split at h
    · rename_i l t1 hp1 st1 h1
      obtain ⟨k1, k2⟩ := hex _ _ _ _ _ _ _ _ h1
      split at h
      · rename_i rest hr
        obtain ⟨q1, q2⟩ := scopeO_ok hex a k _ _ _ _ h
        refine ⟨k1.trans q1, fun hh => ?_⟩
        unfold scopeR
        rw [k2 (q1.hold hh)]
        simp only [hr]
        exact q2 hh
      · rename_i hr
        cases h
        refine ⟨k1, fun hh => ?_⟩
        unfold scopeR
        rw [k2 hh]
        simp only [hr]
    · rename_i r hne
      obtain ⟨k1, k2⟩ := hex _ _ _ _ _ _ _ _ h
      refine ⟨k1, fun hh => ?_⟩
      unfold scopeR
      rw [k2 hh]
      cases x with
      | goto l => exact absurd h (hne l t' hp' st')
      | _ => rfl
theorem exO_ok {N : Nat} (hN : N < 16383) : ∀ n, ExOk (exV P run M N n) (exO P run M N n)
  | 0 => fun c t hp st x t' hp' st' h => by simp [exO] at h
  | n + 1 => fun c t hp st x t' hp' st' h => by
    have ih := exO_ok hN n
    cases c with
    | skip => simp only [exO] at h; cases h; exact ⟨Later.refl _, fun _ => rfl⟩
    | label l => simp only [exO] at h; cases h; exact ⟨Later.refl _, fun _ => rfl⟩
    | region id ops draw =>
      simp only [exO] at h
      split at h
      · rename_i t1 hp1 st1 hr
        cases h
        obtain ⟨k1, k2⟩ := regO_ok hN hr
        exact ⟨k1, fun hh => by simp only [exV, k2 hh]⟩
      · cases h
    | seq c1 c2 =>
      simp only [exO] at h
      split at h
      · rename_i t1 hp1 st1 h1
        obtain ⟨k1, k2⟩ := ih _ _ _ _ _ _ _ _ h1
        obtain ⟨q1, q2⟩ := ih _ _ _ _ _ _ _ _ h
        exact ⟨k1.trans q1, fun hh => by simp only [exV, k2 (q1.hold hh)]; exact q2 hh⟩
      · rename_i r hne
        obtain ⟨k1, k2⟩ := ih _ _ _ _ _ _ _ _ h
        refine ⟨k1, fun hh => ?_⟩
        simp only [exV, k2 hh]
        cases x with
        | nrm => exact absurd h (hne t' hp' st')
        | _ => rfl
    | cond y c1 c2 =>
      simp only [exO] at h
      split at h
      · rename_i v hv
        cases v with
        | true => obtain ⟨k1, k2⟩ := ih _ _ _ _ _ _ _ _ h; exact ⟨k1, fun hh => by simp only [exV, hv, cond_true]; exact k2 hh⟩
        | false => obtain ⟨k1, k2⟩ := ih _ _ _ _ _ _ _ _ h; exact ⟨k1, fun hh => by simp only [exV, hv, cond_false]; exact k2 hh⟩
      · cases h
    | block id c1 =>
      simp only [exO] at h
      split at h
      · rename_i id' t1 hp1 st1 h1
        obtain ⟨k1, k2⟩ := ih _ _ _ _ _ _ _ _ h1
        cases hb : Nat.beq id' id with
        | true => rw [hb, cond_true] at h; cases h; exact ⟨k1, fun hh => by simp only [exV, k2 hh, hb, cond_true]⟩
        | false => rw [hb, cond_false] at h; cases h; exact ⟨k1, fun hh => by simp only [exV, k2 hh, hb, cond_false]⟩
      · rename_i r hne
        obtain ⟨k1, k2⟩ := ih _ _ _ _ _ _ _ _ h
        refine ⟨k1, fun hh => ?_⟩
        simp only [exV, k2 hh]
        cases x with
        | exit id' => exact absurd h (hne id' t' hp' st')
        | _ => rfl
    | loop c1 =>
      simp only [exO] at h
      split at h
      · rename_i t1 hp1 st1 h1
        obtain ⟨k1, k2⟩ := ih _ _ _ _ _ _ _ _ h1
        obtain ⟨q1, q2⟩ := ih _ _ _ _ _ _ _ _ h
        exact ⟨k1.trans q1, fun hh => by simp only [exV, k2 (q1.hold hh)]; exact q2 hh⟩
      · rename_i r hne
        obtain ⟨k1, k2⟩ := ih _ _ _ _ _ _ _ _ h
        refine ⟨k1, fun hh => ?_⟩
        simp only [exV, k2 hh]
        cases x with
        | nrm => exact absurd h (hne t' hp' st')
        | _ => rfl
    | exit id => simp only [exO] at h; cases h; exact ⟨Later.refl _, fun _ => rfl⟩
    | goto l => simp only [exO] at h; cases h; exact ⟨Later.refl _, fun _ => rfl⟩
    | scope c1 =>
      simp only [exO] at h
      obtain ⟨k1, k2⟩ := scopeO_ok ih c1 n c1 t hp st h
      exact ⟨k1, fun hh => by simp only [exV]; exact k2 hh⟩
    | ret => simp only [exO] at h; cases h; exact ⟨Later.refl _, fun _ => rfl⟩
    | rangeFunc f ps c1 c2 => simp only [exO] at h; cases h
    | refuse why => simp only [exO] at h; cases h
/-- a run along a path is a run where what it takes holds -/
theorem runO_ok {n : Nat} {f : FuncId} {args : List AV} {hp hp' : List Blk} {orc : List (Nat × AV)} {r : AV} {cs : List (AV × AV)} (h : runO P M n f args hp orc = some (r, hp', cs)) (hc : Hold cs) : runV P M n f args hp = some (r, hp') := by
  cases n with
  | zero => simp [runO] at h
  | succ n =>
    unfold runO at h
    unfold runV
    simp only at h
    split at h
    · cases h
    · rename_i fn hfn
      split at h
      · cases h
      · rename_i c hb
        cases hN : Nat.blt (Nat.max args.length fn.ntmps) 16383 with
        | false => rw [hN] at h; cases h
        | true =>
          rw [hN] at h
          simp only [hfn, hb, hN, Bool.not_true, cond_false] at h ⊢
          have hN' : Nat.max args.length fn.ntmps < 16383 := Nat.le_of_ble_eq_true hN
          split at h
          · rename_i t hp1 st hex
            obtain ⟨k1, k2⟩ := exO_ok hN' n _ _ _ _ _ _ _ _ hex
            generalize hE : exV P _ M _ n c _ hp = E
            have hE2 := hE.symm.trans (k2 (by split at h <;> first | (split at h <;> first | (cases h; exact hc) | cases h) | cases h))
            subst hE2
            split at h
            · rename_i v hv
              split at h
              · rename_i r2 hp2 hg; cases h; simp only [hv, hg]
              · cases h
            · rename_i vs hne hv
              split at h
              · rename_i r2 hp2 hg
                cases h
                simp only [hv]
                match vs, hne, hg with
                | [], _, hg => exact hg
                | [v], hne, hg => exact absurd rfl (hne v)
                | v1 :: v2 :: vs, _, hg => exact hg
              · cases h
            · cases h
          · rename_i t hp1 st hex
            obtain ⟨k1, k2⟩ := exO_ok hN' n _ _ _ _ _ _ _ _ hex
            generalize hE : exV P _ M _ n c _ hp = E
            have hE2 := hE.symm.trans (k2 (by split at h <;> first | (split at h <;> first | (cases h; exact hc) | cases h) | cases h))
            subst hE2
            split at h
            · rename_i v hv
              split at h
              · rename_i r2 hp2 hg; cases h; simp only [hv, hg]
              · cases h
            · rename_i vs hne hv
              split at h
              · rename_i r2 hp2 hg
                cases h
                simp only [hv]
                match vs, hne, hg with
                | [], _, hg => exact hg
                | [v], hne, hg => exact absurd rfl (hne v)
                | v1 :: v2 :: vs, _, hg => exact hg
              · cases h
            · cases h
          · cases h
end
end Go.Vm
