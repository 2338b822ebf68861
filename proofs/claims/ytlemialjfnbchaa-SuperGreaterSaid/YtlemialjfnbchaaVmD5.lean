/- Regions that draw their order: one order serves all; the proof. -/
import Derived.Test.YtlemialjfnbchaaVmD4
namespace Go.Vm
open Go

theorem light_writes {op : Op} (h : light op = true) : writes op = false := by
  cases op <;> first | rfl | (simp [light] at h; done) | skip
  rename_i c
  simp only [light] at h
  simp only [writes]
  split at h <;> simp_all

section
variable {P : Program} {run : FuncId → List AV → List Blk → Option (AV × List Blk)} {M : Mode} {ops : Array Oper}

theorem ev_put {t : Tr} {d : Option Tmp} {v : AV} {x : Operand} (hb : ∀ i, d = some i → i < 16383) (h : ∀ i, d = some i → x ≠ .tmp i) : ev (putV t d v) x = ev t x := by
  cases d with
  | none => rfl
  | some d =>
    cases x with
    | tmp i =>
      show (t.set d v).get i = t.get i
      rw [Tr.get_set t d i v (hb d rfl), if_neg (fun e => h d rfl (by rw [e]))]
    | _ => rfl
theorem get_put {t : Tr} {d : Option Tmp} {v : AV} {i : Nat} (hb : ∀ i, d = some i → i < 16383) (h : ∀ j, d = some j → j ≠ i) : (putV t d v).get i = t.get i := by
  cases d with
  | none => rfl
  | some d =>
    show (t.set d v).get i = t.get i
    rw [Tr.get_set t d i v (hb d rfl), if_neg (h d rfl)]
theorem looks_op {o : Oper} {d : Tmp} (h : d ∉ o.looksAt ops) : ∀ x ∈ o.op.operands, x ≠ .tmp d := by
  intro x hx e
  subst e
  refine h ?_
  unfold Oper.looksAt
  refine List.mem_append.2 (.inl (List.mem_filterMap.2 ⟨.tmp d, by simpa using hx, rfl⟩))
theorem looks_guard {o : Oper} {d : Tmp} (h : d ∉ o.looksAt ops) : ∀ j want, o.guard = some (j, want) → ∀ e, ((ops[j]?).bind (·.dst)) = some e → d ≠ e := by
  intro j want hg e he hde
  subst hde
  refine h ?_
  unfold Oper.looksAt
  refine List.mem_append.2 (.inr ?_)
  rw [hg]
  simp only
  rw [he]
  simp
/-- an operation of a drawn region is the plain one -/
theorem condSome {α : Type} {b : Bool} {x : Option α} {y : α} (h : cond b x none = some y) : x = some y := by
  cases b
  · cases h
  · exact h
theorem opG_opV {mask : Nat} {pend : Pend} {o : Oper} {t t1 : Tr} {hp hp1 : List Blk} (h : opG P run M mask pend ops o t hp = some (t1, hp1)) : opV P run M ops o t hp = some (t1, hp1) := by
  unfold opG at h
  unfold opV
  split at h
  · cases h
  · exact h
  · by_cases hpl : (plainB t o.op || nbOf ops) = true
    · rw [hpl, cond_true] at h
      split at h
      · cases h
      · rename_i v hp2 hv
        simp only [cond_eq_ite] at h
        split at h
        · exact h
        · cases h
      · rename_i f args hv
        split at h
        · cases h
        · rename_i v hp2 hc
          have : callV run M f args hp = some (v, hp2) := by
            simp only [cond_eq_ite] at hc
            split at hc
            · cases hc
            · unfold callG at hc
              split at hc
              · cases hc
              · split at hc
                · rename_i r hp' hcv
                  simp only [cond_eq_ite] at hc
                  split at hc
                  · cases hc; exact hcv
                  · cases hc
                · cases hc
          simp only [this]
          exact h
    · rw [Bool.eq_false_iff.2 hpl, cond_false] at h; cases h
/-- what was read ahead of it and may be read behind it reads the same -/
def RdOk (P : Program) (r : RdI) (hp hp2 : List Blk) : Prop := (∀ j ∈ r.1, Agr hp hp2 j) ∨ rdEq P r hp hp2 = true
theorem pendC_ok {mask : Nat} {pend : Pend} {bs : List Nat} {hp hp2 : List Blk} (h : pendC P mask pend bs hp hp2 = true) {q : Nat × RdI} (hq : q ∈ pend) (hm : mask.testBit q.1 = false) (ha : ∀ j, j ∉ bs → Agr hp hp2 j) : RdOk P q.2 hp hp2 := by
  have := List.all_eq_true.1 h q hq
  rw [hm, Bool.false_or, Bool.or_eq_true] at this
  rcases this with h1 | h1
  · refine .inl (fun j hj => ha j (fun hmem => ?_))
    have h2 := List.all_eq_true.1 h1 j hj
    rw [(memB_ok j bs).2 hmem] at h2
    cases h2
  · exact .inr h1
theorem opG_agr {mask : Nat} {pend : Pend} {o : Oper} {t t1 : Tr} {hp hp1 : List Blk} (h : opG P run M mask pend ops o t hp = some (t1, hp1)) :
    ∀ q ∈ pend, mask.testBit q.1 = false → RdOk P q.2 hp hp1 := by
  intro q hq hm
  unfold opG at h
  split at h
  · cases h
  · cases h; exact .inl (fun j _ => Agr.refl _ _)
  · by_cases hpl : (plainB t o.op || nbOf ops) = true
    · rw [hpl, cond_true] at h
      split at h
      · cases h
      · rename_i v hp2 hv
        by_cases hc : (!(writes o.op) || pendC P mask pend (o.op.operands.toList.flatMap fun x => ids (ev t x)) hp hp2) = true
        · rw [hc, cond_true] at h
          cases h
          cases hw : writes o.op with
          | false => exact .inl (fun j _ => vop_agr hv j (fun hw' => by rw [hw] at hw'; cases hw'))
          | true =>
            rw [hw] at hc
            simp only [Bool.not_true, Bool.false_or] at hc
            exact pendC_ok hc hq hm (fun j hj => vop_agr hv j (fun _ => hj))
        · rw [Bool.eq_false_iff.2 hc, cond_false] at h; cases h
      · rename_i f args hv
        split at h
        · cases h
        · rename_i v hp2 hc
          cases h
          simp only [cond_eq_ite] at hc
          split at hc
          · cases hc
          · unfold callG at hc
            split at hc
            · cases hc
            · rename_i args1 hp1' hfz
              split at hc
              · rename_i r hp' hcv
                by_cases hs : (pendC P mask pend (reach hp1' 1000 (args1.flatMap ids) []) hp hp' || sameBs hp hp') = true
                · rw [hs, cond_true] at hc
                  cases hc
                  rw [Bool.or_eq_true] at hs
                  rcases hs with hs | hs
                  · exact pendC_ok hs hq hm (fun j hj => callV_agr hfz hcv j hj)
                  · exact .inl (fun j _ => sameBs_ok hs j)
                · rw [Bool.eq_false_iff.2 hs, cond_false] at hc; cases hc
              · cases hc
    · rw [Bool.eq_false_iff.2 hpl, cond_false] at h; cases h
theorem pendC_sub {mask : Nat} {a b : Pend} {bs : List Nat} {hp hp2 : List Blk} (h : ∀ q ∈ b, q ∈ a) (hp1 : pendC P mask a bs hp hp2 = true) : pendC P mask b bs hp hp2 = true :=
  List.all_eq_true.2 (fun q hq => List.all_eq_true.1 hp1 q (h q hq))
theorem opG_mono {mask : Nat} {pend pend' : Pend} {o : Oper} {t : Tr} {hp : List Blk} {r : Tr × List Blk} (hsub : ∀ q ∈ pend', q ∈ pend) (h : opG P run M mask pend ops o t hp = some r) : opG P run M mask pend' ops o t hp = some r := by
  unfold opG at h ⊢
  split at h
  · cases h
  · exact h
  · split at h
    · cases h
    · rename_i v hp2 hv
      by_cases hc : (!(writes o.op) || pendC P mask pend (o.op.operands.toList.flatMap fun x => ids (ev t x)) hp hp2) = true
      · rw [hc, cond_true] at h
        have hc2 : (!(writes o.op) || pendC P mask pend' (o.op.operands.toList.flatMap fun x => ids (ev t x)) hp hp2) = true := by
          rw [Bool.or_eq_true] at hc ⊢
          rcases hc with hc | hc
          · exact .inl hc
          · exact .inr (pendC_sub hsub hc)
        simp only [hc2, cond_true]
        exact h
      · rw [Bool.eq_false_iff.2 hc, cond_false] at h; cases h
    · rename_i f args hv
      split at h
      · cases h
      · rename_i v hp2 hc
        have : cond (light o.op) none (callG P run M mask pend' f args hp) = some (v, hp2) := by
          cases hl : light o.op with
          | true => rw [hl, cond_true] at hc; cases hc
          | false =>
            rw [hl, cond_false] at hc
            rw [cond_false]
            unfold callG at hc ⊢
            split at hc
            · cases hc
            · rename_i args1 hp1' hfz
              split at hc
              · rename_i r hp' hcv
                by_cases hs : (pendC P mask pend (reach hp1' 1000 (args1.flatMap ids) []) hp hp' || sameBs hp hp') = true
                · rw [hs, cond_true] at hc
                  have hs2 : (pendC P mask pend' (reach hp1' 1000 (args1.flatMap ids) []) hp hp' || sameBs hp hp') = true := by
                    rw [Bool.or_eq_true] at hs ⊢
                    rcases hs with hs | hs
                    · exact .inl (pendC_sub hsub hs)
                    · exact .inr hs
                  simp only [hs2, cond_true]
                  exact hc
                · rw [Bool.eq_false_iff.2 hs, cond_false] at hc; cases hc
              · cases hc
        simp only [this]
        exact h
theorem light_stable2 {o : Oper} {t : Tr} {hp hp' : List Blk} {v : AV} (hl : light o.op = true) (hpl : plainB t o.op = true) (hv : vop P o t hp = some (.val v hp')) :
    hp' = hp ∧ ∀ hp2, RdOk P (readR t o) hp hp2 → vop P o t hp2 = some (.val v hp2) := by
  obtain ⟨h1, h2⟩ := light_stable hl hpl hv
  refine ⟨h1, fun hp2 hr => ?_⟩
  rcases hr with hr | hr
  · exact h2 hp2 hr
  · unfold rdEq readR at hr
    cases ho : o.op <;> rw [ho] at hr <;> simp only at hr <;> first | (cases hr; done) | skip
    case load ty x =>
      have load_eq : ∀ hp3, vop P o t hp3 = (match rdV P hp3 ty (ev t x) with | some v => some (.val v hp3) | none => none) := by
        intro hp3
        unfold rdV
        simp only [vop, ho]
        cases cellsAt hp3 (ev t x) with
        | none => rfl
        | some q =>
          obtain ⟨xs, k⟩ := q
          simp only
          cases ld P ty xs k <;> rfl
      rw [load_eq] at hv ⊢
      split at hr
      · rename_i v1 v2 e1 e2
        rw [e1] at hv
        cases hv
        rw [e2, eqA_ok _ _ hr]
      · cases hr
theorem opG_light {mask : Nat} {pend : Pend} {o : Oper} {t t1 : Tr} {hp hp1 : List Blk} (hl : light o.op = true) (hnb : nbOf ops = true → isBS o.op = false) (h : opG P run M mask pend ops o t hp = some (t1, hp1)) :
    hp1 = hp ∧ ∃ v, t1 = putV t o.dst v ∧ ∀ mask' pend' hp2, RdOk P (readR t o) hp hp2 → opG P run M mask' pend' ops o t hp2 = some (putV t o.dst v, hp2) := by
  unfold opG at h
  split at h
  · cases h
  · rename_i hg; cases h; exact ⟨rfl, _, rfl, fun mask' pend' hp2 _ => by unfold opG; rw [hg]⟩
  · rename_i hg
    by_cases hpl : (plainB t o.op || nbOf ops) = true
    · rw [hpl, cond_true] at h
      split at h
      · cases h
      · rename_i v hp2 hv
        have hpl' : plainB t o.op = true := by
          rw [Bool.or_eq_true] at hpl
          rcases hpl with hpl | hpl
          · exact hpl
          · have := hnb hpl
            revert this
            cases o.op <;> intro this <;> first | rfl | (simp [isBS] at this)
        obtain ⟨h1, h2⟩ := light_stable2 hl hpl' hv
        subst h1
        rw [light_writes hl] at h
        simp only [Bool.not_false, Bool.true_or, cond_true] at h
        cases h
        refine ⟨rfl, v, rfl, fun mask' pend' hp2 ha => ?_⟩
        unfold opG
        rw [hg]
        simp only [hpl, cond_true, h2 hp2 ha, light_writes hl, Bool.not_false, Bool.true_or]
      · rw [hl, cond_true] at h; cases h
    · rw [Bool.eq_false_iff.2 hpl, cond_false] at h; cases h

/-- one that only reads may stand behind one that does not hang on it -/
theorem swap {mx mi x : Nat} {pend : Pend} {ox oi : Oper} {t tx ti : Tr} {hp hpx hp2 : List Blk} (hl : light ox.op = true) (hnb : nbOf ops = true → isBS ox.op = false) (hap : Oper.apart ops ox oi = true) (hm : mi.testBit x = false) (hbx : ∀ d, ox.dst = some d → d < 16383) (hbi : ∀ d, oi.dst = some d → d < 16383)
    (h1 : opG P run M mx pend ops ox t hp = some (tx, hpx)) (h2 : opG P run M mi ((x, readR t ox) :: pend) ops oi tx hpx = some (ti, hp2)) :
    ∃ t1, opG P run M mi pend ops oi t hp = some (t1, hp2) ∧ readR t1 ox = readR t ox ∧ readR tx oi = readR t oi ∧ ∀ mx' pendx, ∃ t1', opG P run M mx' pendx ops ox t1 hp2 = some (t1', hp2) ∧ Alike t1' ti := by
  obtain ⟨a1, a2, a3⟩ := Oper.apart_spec hap
  obtain ⟨rfl, vx, rfl, k2⟩ := opG_light hl hnb h1
  have ei : ∀ z ∈ oi.op.operands, ev (putV t ox.dst vx) z = ev t z := fun z hz => ev_put hbx (fun d hd => looks_op (a1 d hd) z hz)
  have gi : ∀ j want, oi.guard = some (j, want) → ∀ d, ((ops[j]?).bind (·.dst)) = some d → (putV t ox.dst vx).get d = t.get d := fun j want hg d hd => get_put hbx (fun e he => looks_guard (a1 e he) j want hg d hd)
  have h3 := opG_mono (pend' := pend) (fun q hq => by simp [hq]) h2
  obtain ⟨vi, rfl, h4⟩ := opG_congr ei gi h3
  refine ⟨putV t oi.dst vi, h4, ?_, readR_congr ei, ?_⟩
  · exact readR_congr (fun z hz => ev_put hbi (fun d hd => looks_op (a3 d hd) z hz))
  · intro mx' pendx
    have hag : RdOk P (readR t ox) hpx hp2 := opG_agr h2 (x, readR t ox) (by simp) hm
    have h5 := k2 mx' pendx hp2 hag
    have ex : ∀ z ∈ ox.op.operands, ev t z = ev (putV t oi.dst vi) z := fun z hz => (ev_put hbi (fun d hd => looks_op (a3 d hd) z hz)).symm
    have gx : ∀ j want, ox.guard = some (j, want) → ∀ d, ((ops[j]?).bind (·.dst)) = some d → t.get d = (putV t oi.dst vi).get d := fun j want hg d hd => (get_put hbi (fun e he => looks_guard (a3 e he) j want hg d hd)).symm
    obtain ⟨v', e1, h6⟩ := opG_congr ex gx h5
    refine ⟨_, h6, ?_⟩
    intro k
    have alike : ∀ (v' : AV), putV t ox.dst vx = putV t ox.dst v' → (putV (putV t oi.dst vi) ox.dst v').get k = (putV (putV t ox.dst vx) oi.dst vi).get k := by
      intro v' hv'
      cases hdx : ox.dst with
      | none => rfl
      | some dx =>
        cases hdi : oi.dst with
        | none => rw [hdx] at hv'; exact congrArg (fun q => Tr.get q k) hv'.symm
        | some di =>
          have hne : dx ≠ di := fun e => a2 dx hdx (by rw [hdi, e])
          have hdxb := hbx dx hdx
          have hdib := hbi di hdi
          show (((t.set di vi).set dx v')).get k = ((t.set dx vx).set di vi).get k
          rw [Tr.get_set _ dx k _ hdxb, Tr.get_set _ di k _ hdib, Tr.get_set _ di k _ hdib, Tr.get_set _ dx k _ hdxb]
          have hvv : v' = vx := by
            rw [hdx] at hv'
            have := congrArg (fun q => Tr.get q dx) hv'
            simp only [putV] at this
            rw [Tr.get_set _ dx dx _ hdxb, Tr.get_set _ dx dx _ hdxb, if_pos rfl, if_pos rfl] at this
            exact this.symm
          by_cases c1 : dx = k
          · subst c1; rw [if_pos rfl, if_neg (fun e => hne e.symm), if_pos rfl, hvv]
          · rw [if_neg c1, if_neg c1]
    exact alike v' e1
end
end Go.Vm
