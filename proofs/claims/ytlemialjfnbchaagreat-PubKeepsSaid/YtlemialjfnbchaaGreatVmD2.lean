/- Regions that draw their order: what each operation reads and turns. -/
import Derived.Test.YtlemialjfnbchaaGreatVmD1

namespace Go.Vm
open Go

/-- a block reads as it did -/
def Agr (hp hp2 : List Blk) (j : Nat) : Prop := ∀ b, hp[j]? = some b → ∃ b', hp2[j]? = some b' ∧ b'.cells = b.cells ∧ b'.gen = b.gen ∧ b'.esz = b.esz ∧ b'.row = b.row ∧ b'.keys = b.keys
theorem Agr.refl (hp : List Blk) (j : Nat) : Agr hp hp j := fun b h => ⟨b, h, rfl, rfl, rfl, rfl, rfl⟩
theorem Agr.trans {a b c : List Blk} {j : Nat} (h : Agr a b j) (k : Agr b c j) : Agr a c j := by
  intro x hx
  obtain ⟨y, h1, h2, h3, h4, h5, h6⟩ := h x hx
  obtain ⟨z, k1, k2, k3, k4, k5, k6⟩ := k y h1
  exact ⟨z, k1, k2.trans h2, k3.trans h3, k4.trans h4, k5.trans h5, k6.trans h6⟩
theorem Agr.push (hp l : List Blk) (j : Nat) : Agr hp (hp ++ l) j := fun b h => ⟨b, by rw [List.getElem?_append_left (List.getElem?_eq_some_iff.1 h).1, h], rfl, rfl, rfl, rfl, rfl⟩
theorem Agr.setRo {hp : List Blk} {i : Nat} {b : Blk} (h : hp[i]? = some b) (q : Bool) (j : Nat) : Agr hp (hp.set i { b with ro := q }) j := by
  intro x hx
  rw [get_set' hp i _ (List.getElem?_eq_some_iff.1 h).1]
  by_cases e : j = i
  · subst e; rw [h] at hx; cases hx; rw [if_pos rfl]; exact ⟨_, rfl, rfl, rfl, rfl, rfl, rfl⟩
  · rw [if_neg e]; exact ⟨x, hx, rfl, rfl, rfl, rfl, rfl⟩
theorem Agr.setNe {hp : List Blk} {i j : Nat} (b : Blk) (h : j ≠ i) : Agr hp (hp.set i b) j := by
  intro x hx
  rw [List.getElem?_set_ne (fun e => h e.symm)]
  exact ⟨x, hx, rfl, rfl, rfl, rfl, rfl⟩
theorem getB_agr {hp hp2 : List Blk} {i g : Nat} {b : Blk} (h : getB hp i g = some b) (ha : Agr hp hp2 i) : ∃ b', getB hp2 i g = some b' ∧ b'.cells = b.cells ∧ b'.gen = b.gen ∧ b'.esz = b.esz ∧ b'.row = b.row := by
  unfold getB at h
  split at h
  · rename_i b0 hb
    cases hq : (Nat.beq b0.gen g && noKeys b0) with
    | false => rw [hq] at h; cases h
    | true =>
      rw [hq, cond_true] at h
      cases h
      obtain ⟨b', h1, h2, h3, h4, h5, h6⟩ := ha b hb
      refine ⟨b', ?_, h2, h3, h4, h5⟩
      unfold getB
      rw [h1]
      simp only
      have : noKeys b' = noKeys b := by unfold noKeys; rw [h6]
      rw [h3, this, hq, cond_true]
  · cases h
theorem getM_agr {hp hp2 : List Blk} {i g : Nat} {ks : List Value} {b : Blk} (h : getM hp i g = some (ks, b)) (ha : Agr hp hp2 i) : ∃ b', getM hp2 i g = some (ks, b') ∧ b'.cells = b.cells := by
  unfold getM at h
  split at h
  · rename_i b0 hb
    cases hq : Nat.beq b0.gen g with
    | false => rw [hq] at h; cases h
    | true =>
      rw [hq, cond_true] at h
      split at h
      · rename_i ks' hk
        cases h
        obtain ⟨b', h1, h2, h3, h4, h5, h6⟩ := ha b hb
        refine ⟨b', ?_, h2⟩
        unfold getM
        rw [h1]
        simp only
        rw [h3, hq, cond_true, h6, hk]
      · cases h
  · cases h
theorem getB_some {hp : List Blk} {i g : Nat} {b : Blk} (h : getB hp i g = some b) : hp[i]? = some b := by
  unfold getB at h
  split at h
  · rename_i b0 hb
    cases hq : (Nat.beq b0.gen g && noKeys b0) with
    | false => rw [hq] at h; cases h
    | true => rw [hq, cond_true] at h; cases h; exact hb
  · cases h
theorem ids_mp (i g : Nat) : ids (.mp i g) = [i] := rfl
theorem ids_ref (i g k n : Nat) : ids (.ref i g k n) = [i] := rfl
theorem ids_ptr (i g k : Nat) : ids (.ptr i g k) = [i] := rfl

theorem cellsAt_agr {hp hp2 : List Blk} {v : AV} {xs : List AV} {k : Nat} (h : cellsAt hp v = some (xs, k)) (ha : ∀ j ∈ ids v, Agr hp hp2 j) : cellsAt hp2 v = some (xs, k) := by
  unfold cellsAt at h ⊢
  split at h
  · exact h
  · split at h
    · rename_i i g k' b hb
      cases h
      obtain ⟨b', h1, h2, _⟩ := getB_agr hb (ha _ (by rw [ids_ptr]; simp))
      simp only [h1, h2]
    · cases h
  · cases h
theorem lenV_agr {hp hp2 : List Blk} {v : AV} {n : Nat} (h : lenV hp v = some n) (ha : ∀ j ∈ ids v, Agr hp hp2 j) : lenV hp2 v = some n := by
  unfold lenV at h ⊢
  split at h
  · exact h
  · exact h
  · split at h
    · rename_i i g k n' x b hb
      cases h
      obtain ⟨b', h1, _⟩ := getB_agr hb (ha _ (by rw [ids_ref]; simp))
      simp only [h1]
    · cases h
  · exact h
  · cases h
theorem elemsOf_agr {hp hp2 : List Blk} {v : AV} {n : Nat} {xs : List AV} (h : elemsOf hp v = some (n, xs)) (ha : ∀ j ∈ ids v, Agr hp hp2 j) : elemsOf hp2 v = some (n, xs) := by
  unfold elemsOf at h ⊢
  split at h
  · exact h
  · exact h
  · exact h
  · exact h
  · split at h
    · rename_i i g k n' x b hb
      obtain ⟨b', h1, h2, h3, h4, h5⟩ := getB_agr hb (ha _ (by rw [ids_ref]; simp))
      simp only [h1, h2, h4]
      exact h
    · cases h
  · exact h
  · cases h
theorem pure1_heap {P : Program} {t : Tr} {hp hp' : List Blk} {o : Oper} {v : AV} (h : pure1 P t hp o = some (.val v hp')) : hp' = hp ∧ ∀ hp2, pure1 P t hp2 o = some (.val v hp2) := by
  unfold pure1 at h ⊢
  cases hc : (noSel o.op && allConc t o.op.operands.toList) with
  | false => rw [hc] at h; cases h
  | true =>
    rw [hc, cond_true] at h
    split at h
    · rename_i u hu; cases h; exact ⟨rfl, fun hp2 => by rw [cond_true]⟩
    · cases h
    · cases h
theorem allConc_mem {t : Tr} : ∀ {l : List Operand}, allConc t l = true → ∀ x ∈ l, (conc (ev t x)).isSome = true
  | [], _, x, hx => by cases hx
  | y :: l, h, x, hx => by
    simp only [allConc, Bool.and_eq_true] at h
    rcases List.mem_cons.1 hx with rfl | hx
    · exact h.1
    · exact allConc_mem h.2 x hx
theorem pure1_conc {P : Program} {t : Tr} {hp : List Blk} {o : Oper} {out : Out} (h : pure1 P t hp o = some out) : ∀ x ∈ o.op.operands.toList, (conc (ev t x)).isSome = true := by
  unfold pure1 at h
  by_cases hc : (noSel o.op && allConc t o.op.operands.toList) = true
  · rw [Bool.and_eq_true] at hc
    exact allConc_mem hc.2
  · rw [Bool.eq_false_iff.2 hc, cond_false] at h; cases h
theorem frz2_plain {v : AV} (h : idsUp ids0 v = []) : ∃ v', ∀ hp, frz2 hp v = some (v', hp) := by
  cases v with
  | ref i g k n => simp [idsUp] at h
  | lit n xs => exact ⟨_, fun hp => rfl⟩
  | _ => exact ⟨_, fun hp => rfl⟩
theorem frzL_plain : ∀ {xs : List AV}, xs.flatMap (idsUp ids0) = [] → ∃ ys, ∀ hp, frzL frz2 hp xs = some (ys, hp)
  | [], _ => ⟨[], fun hp => rfl⟩
  | x :: xs, h => by
    rw [List.flatMap_cons, List.append_eq_nil_iff] at h
    obtain ⟨v', h1⟩ := frz2_plain h.1
    obtain ⟨ys, h2⟩ := frzL_plain h.2
    exact ⟨v' :: ys, fun hp => by simp [frzL, h1, h2]⟩
theorem frz_plain {v : AV} (h : ids v = []) : ∃ v', ∀ hp, frz hp v = some (v', hp) := by
  cases v with
  | ref i g k n => rw [ids_ref] at h; cases h
  | agg xs =>
    obtain ⟨ys, h1⟩ := frzL_plain (xs := xs) (by simpa [ids, idsUp] using h)
    exact ⟨.agg ys, fun hp => by simp [frz, h1]⟩
  | tup xs =>
    obtain ⟨ys, h1⟩ := frzL_plain (xs := xs) (by simpa [ids, idsUp] using h)
    exact ⟨.tup ys, fun hp => by simp [frz, h1]⟩
  | lit n xs => exact ⟨_, fun hp => rfl⟩
  | _ => exact ⟨_, fun hp => rfl⟩
theorem frzAll_plain : ∀ {xs : List AV}, (∀ x ∈ xs, ids x = []) → ∃ ys, ∀ hp, frzAll hp xs = some (ys, hp)
  | [], _ => ⟨[], fun hp => rfl⟩
  | x :: xs, h => by
    obtain ⟨v', h1⟩ := frz_plain (h x (by simp))
    obtain ⟨ys, h2⟩ := frzAll_plain (xs := xs) (fun y hy => h y (by simp [hy]))
    exact ⟨v' :: ys, fun hp => by simp [frzAll, h1, h2]⟩

theorem lookupV_agr {P : Program} {hp hp2 hp' : List Blk} {ty : TypeId} {x k v : AV} {ok : Bool} (h : lookupV P hp ty x k ok = some (.val v hp')) (ha : ∀ j ∈ ids x, Agr hp hp2 j) : hp' = hp ∧ lookupV P hp2 ty x k ok = some (.val v hp2) := by
  unfold lookupV at h ⊢
  split at h
  · rename_i kt et kv hm
    by_cases hq : keyT P kt kv = true
    · rw [hq, cond_true] at h
      simp only [hq, cond_true]
      split at h
      · rename_i z hz
        cases h
        exact ⟨rfl, by simp only⟩
      · rename_i z i g hz
        split at h
        · rename_i ks b hb
          obtain ⟨b', h1, h2⟩ := getM_agr hb (ha _ (by rw [ids_mp]; simp))
          simp only [h1, h2]
          split at h
          · rename_i j hj
            split at h
            · rename_i u hu
              cases h
              exact ⟨rfl, by simp only⟩
            · cases h
          · cases h
            exact ⟨rfl, rfl⟩
          · cases h
        · cases h
      · cases h
    · rw [Bool.eq_false_iff.2 hq, cond_false] at h; cases h
  · cases h
theorem mlenV_agr {hp hp2 : List Blk} {v : AV} {n : Nat} (h : mlenV hp v = some n) (ha : ∀ j ∈ ids v, Agr hp hp2 j) : mlenV hp2 v = some n := by
  unfold mlenV at h ⊢
  split at h
  · rename_i i g
    split at h
    · rename_i ks b hb
      cases h
      obtain ⟨b', h1, _⟩ := getM_agr hb (ha _ (by rw [ids_mp]; simp))
      simp only [h1]
    · cases h
  · cases h
theorem sliceV_agr {P : Program} {hp hp2 hp' : List Blk} {ty : TypeId} {x v : AV} {lo hi mx : Option AV} (h : sliceV P hp ty x lo hi mx = some (.val v hp')) (ha : ∀ j ∈ ids x, Agr hp hp2 j) : hp' = hp ∧ sliceV P hp2 ty x lo hi mx = some (.val v hp2) := by
  unfold sliceV at h ⊢
  split at h
  · cases h
  · rename_i e he
    split at h
    · cases h
    · rename_i sz hsz
      split at h
      · cases h
      · rename_i n hn
        simp only [lenV_agr hn ha]
        split at h
        · rename_i l hh hl0 hh0
          cases hc : (Nat.ble l hh && Nat.ble hh n) with
          | false => rw [hc] at h; cases h
          | true =>
            rw [hc, cond_true] at h
            rw [cond_true]
            split at h
            · rename_i mv
              split at h
              · rename_i mn hmn
                cases hq : (hi.isSome && Nat.beq mn l && Nat.beq hh l) with
                | false => rw [hq] at h; cases h
                | true => rw [hq, cond_true] at h; cases h; exact ⟨rfl, by simp only [ cond_true]⟩
              · cases h
            · split at h
              · split at h
                · rename_i ys hys; cases h; exact ⟨rfl, rfl⟩
                · cases h
              · split at h
                · rename_i ys hys; cases h; exact ⟨rfl, rfl⟩
                · cases h
              · rename_i i g k n' hn'
                split at h
                · rename_i b hb
                  obtain ⟨b', h1, h2, h3, h4, h5⟩ := getB_agr hb (ha _ (by rw [ids_ref]; simp))
                  simp only [h1, h4]
                  by_cases hq : Nat.beq b.esz sz = true
                  · rw [hq, cond_true] at h
                    rw [hq, cond_true]
                    by_cases hz1 : Nat.beq l 0 = true
                    · rw [hz1, cond_true] at h
                      rw [hz1, cond_true]
                      cases h; exact ⟨rfl, rfl⟩
                    · have hz1' := Bool.eq_false_iff.2 hz1
                      rw [hz1', cond_false] at h
                      rw [hz1', cond_false]
                      by_cases hz2 : Nat.beq l hh = true
                      · rw [hz2, cond_true] at h
                        rw [hz2, cond_true]
                        cases h; exact ⟨rfl, rfl⟩
                      · have hz2' := Bool.eq_false_iff.2 hz2
                        rw [hz2', cond_false] at h
                        rw [hz2', cond_false]
                        cases h; exact ⟨rfl, rfl⟩
                  · rw [Bool.eq_false_iff.2 hq, cond_false] at h; cases h
                · cases h
              · cases h; exact ⟨rfl, rfl⟩
              · cases h
        · cases h

/-- what only reads leaves the memory, and reads the same as long as what it reads is the same -/
theorem light_stable {P : Program} {t : Tr} {hp hp' : List Blk} {o : Oper} {v : AV} (hl : light o.op = true) (hpl : plainB t o.op = true) (hv : vop P o t hp = some (.val v hp')) :
    hp' = hp ∧ ∀ hp2, (∀ j ∈ readIds t o, Agr hp hp2 j) → vop P o t hp2 = some (.val v hp2) := by
  have viaPure : pure1 P t hp o = some (.val v hp') → (∀ hp2, vop P o t hp2 = pure1 P t hp2 o) → hp' = hp ∧ ∀ hp2, (∀ j ∈ readIds t o, Agr hp hp2 j) → vop P o t hp2 = some (.val v hp2) := by
    intro h1 h2
    obtain ⟨h3, h4⟩ := pure1_heap h1
    exact ⟨h3, fun hp2 _ => by rw [h2]; exact h4 hp2⟩
  have rd : bare o.op = false → ∀ x ∈ o.op.operands.toList, ∀ j ∈ ids (ev t x), j ∈ readIds t o := by
    intro hb x hx j hj
    unfold readIds
    rw [hl, hb]
    simp only [Bool.not_false, Bool.and_self, cond_true]
    exact List.mem_flatMap.2 ⟨x, hx, hj⟩
  cases ho : o.op
  case move x => simp only [vop, ho] at hv ⊢; cases hv; exact ⟨rfl, fun _ _ => rfl⟩
  case assign x => simp only [vop, ho] at hv ⊢; cases hv; exact ⟨rfl, fun _ _ => rfl⟩
  case pick c x y =>
    simp only [vop, ho] at hv ⊢
    split at hv
    · cases hv; exact ⟨rfl, fun _ _ => rfl⟩
    · cases hv
  case build ty ps =>
    simp only [vop, ho] at hv ⊢
    split at hv
    · split at hv
      · rename_i z fields hz hu _ cs hcs
        by_cases hq : (fields.toList.all fun (f : Field) => (szT P f.type).isSome) = true
        · rw [hq, cond_true] at hv; cases hv; exact ⟨rfl, fun _ _ => by rw [hq, cond_true]⟩
        · rw [Bool.eq_false_iff.2 hq, cond_false] at hv; cases hv
      · cases hv
    · split at hv
      · split at hv
        · cases hv; exact ⟨rfl, fun _ _ => rfl⟩
        · cases hv
      · cases hv
    · cases hv
  case load ty x =>
    simp only [vop, ho] at hv ⊢
    split at hv
    · rename_i xs k hx
      split at hv
      · rename_i u hld
        cases hv
        refine ⟨rfl, fun hp2 ha => ?_⟩
        rw [cellsAt_agr hx (fun j hj => ha j (rd (by rw [ho]; rfl) x (by rw [ho]; simp [Op.operands]) j hj))]
        simp only [hld]
      · cases hv
    · cases hv
  case nilCheck x =>
    simp only [vop, ho] at hv
    split at hv
    · rename_i i g k hx; cases hv; exact ⟨rfl, fun _ _ => by simp only [vop, ho, hx]⟩
    · rename_i xs k hx; cases hv; exact ⟨rfl, fun _ _ => by simp only [vop, ho, hx]⟩
    · rename_i f b c hx; cases hv; exact ⟨rfl, fun _ _ => by simp only [vop, ho, hx]⟩
    · rename_i ty y hx; cases hv; exact ⟨rfl, fun _ _ => by simp only [vop, ho, hx]⟩
    · rename_i h1 h2 h3 h4
      refine viaPure hv (fun hp2 => ?_)
      simp only [vop, ho]
  case binOp op ty x y z =>
    cases op
    case eql =>
      simp only [vop, ho] at hv
      split at hv
      · rename_i q hq; cases hv; exact ⟨rfl, fun _ _ => by simp only [vop, ho, hq]⟩
      · rename_i hq; exact viaPure hv (fun hp2 => by simp only [vop, ho, hq])
    case neq =>
      simp only [vop, ho] at hv
      split at hv
      · rename_i q hq; cases hv; exact ⟨rfl, fun _ _ => by simp only [vop, ho, hq]⟩
      · rename_i hq; exact viaPure hv (fun hp2 => by simp only [vop, ho, hq])
    all_goals
      simp only [vop, ho] at hv
      exact viaPure hv (fun hp2 => by simp only [vop, ho])
  case unOp op ty x =>
    simp only [vop, ho] at hv
    exact viaPure hv (fun hp2 => by simp only [vop, ho])
  case convert s d x =>
    simp only [vop, ho] at hv
    split at hv
    · rename_i e hs hd
      split at hv
      · rename_i n xs he hx
        have hx2 : ∀ hp2, (∀ j ∈ readIds t o, Agr hp hp2 j) → elemsOf hp2 (ev t x) = some (n, xs) := fun hp2 ha => elemsOf_agr hx (fun j hj => ha j (rd (by rw [ho]; rfl) x (by rw [ho]; simp [Op.operands]) j hj))
        split at hv
        · cases hv
        · rename_i hns
          by_cases hq : Nat.beq xs.length n = true
          · rw [hq, cond_true] at hv
            split at hv
            · rename_i l hl2
              cases hv
              refine ⟨rfl, fun hp2 ha => ?_⟩
              simp only [vop, ho, hs, hd, he, hx2 hp2 ha, hq, cond_true, hl2]
            · cases hv
          · rw [Bool.eq_false_iff.2 hq, cond_false] at hv; cases hv
      · cases hv
    · rename_i h1
      refine viaPure hv (fun hp2 => ?_)
      simp only [vop, ho]
  case makeInterface ty x =>
    simp only [vop, ho] at hv ⊢
    split at hv
    · cases hv
    · cases hv; exact ⟨rfl, fun _ _ => rfl⟩
    · cases hv
  case makeFunc f x y => simp only [vop, ho] at hv ⊢; cases hv; exact ⟨rfl, fun _ _ => rfl⟩
  case fieldAddr s x f =>
    simp only [vop, ho] at hv ⊢
    split at hv
    · split at hv
      · split at hv
        · rename_i n hn
          by_cases hq : Nat.beq n 0 = true
          · rw [hq, cond_true] at hv; cases hv
          · have hq' := Bool.eq_false_iff.2 hq
            rw [hq', cond_false] at hv
            split at hv
            · cases hv; exact ⟨rfl, fun _ _ => by rw [hq', cond_false]⟩
            · cases hv; exact ⟨rfl, fun _ _ => by rw [hq', cond_false]⟩
            · cases hv
        · cases hv
      · cases hv
    · cases hv
  case field s x f =>
    simp only [vop, ho] at hv
    split at hv
    · rename_i xs fields hx hs
      split at hv
      · rename_i fd hfd
        split at hv
        · rename_i u hl2; cases hv; exact ⟨rfl, fun _ _ => by simp only [vop, ho, hx, hs, hfd, hl2]⟩
        · cases hv
      · cases hv
    · refine viaPure hv (fun hp2 => ?_)
      simp only [vop, ho]
  case indexAddr ty x y =>
    simp only [vop, ho] at hv
    split at hv
    · rename_i i e hi hu
      split at hv
      · rename_i sz n xs hsz hx
        by_cases hq : Nat.blt i n = true
        · rw [hq, cond_true] at hv; cases hv; exact ⟨rfl, fun _ _ => by simp only [vop, ho, hi, hu, hsz, hx, hq, cond_true]⟩
        · rw [Bool.eq_false_iff.2 hq, cond_false] at hv; cases hv
      · rename_i sz n xs hsz hx
        by_cases hq : Nat.blt i n = true
        · rw [hq, cond_true] at hv; cases hv; exact ⟨rfl, fun _ _ => by simp only [vop, ho, hi, hu, hsz, hx, hq, cond_true]⟩
        · rw [Bool.eq_false_iff.2 hq, cond_false] at hv; cases hv
      · rename_i sz b g k n hsz hx
        split at hv
        · rename_i bl hb
          by_cases hq : (Nat.blt i n && Nat.beq bl.esz sz && Nat.ble ((i + 1) * sz + k) bl.cells.length) = true
          · rw [hq, cond_true] at hv
            cases hv
            refine ⟨rfl, fun hp2 ha => ?_⟩
            obtain ⟨b', h1, h2, h3, h4, h5⟩ := getB_agr hb (ha _ (rd (by rw [ho]; rfl) x (by rw [ho]; simp [Op.operands]) b (by rw [hx, ids_ref]; simp)))
            simp only [vop, ho, hi, hu, hsz, hx, h1, h4, h2, hq, cond_true]
          · rw [Bool.eq_false_iff.2 hq, cond_false] at hv; cases hv
        · cases hv
      · cases hv
    · rename_i i n e hi hu
      split at hv
      · rename_i sz b g k hsz hx
        by_cases hq : Nat.blt i n = true
        · rw [hq, cond_true] at hv; cases hv; exact ⟨rfl, fun _ _ => by simp only [vop, ho, hi, hu, hsz, hx, hq, cond_true]⟩
        · rw [Bool.eq_false_iff.2 hq, cond_false] at hv; cases hv
      · rename_i sz xs k hsz hx
        by_cases hq : Nat.blt i n = true
        · rw [hq, cond_true] at hv; cases hv; exact ⟨rfl, fun _ _ => by simp only [vop, ho, hi, hu, hsz, hx, hq, cond_true]⟩
        · rw [Bool.eq_false_iff.2 hq, cond_false] at hv; cases hv
      · cases hv
    · cases hv
  case index ty x y =>
    simp only [vop, ho] at hv
    exact viaPure hv (fun hp2 => by simp only [vop, ho])
  case slice ty x lo hi mx =>
    simp only [vop, ho] at hv
    split at hv
    · rename_i u hx; exact viaPure hv (fun hp2 => by simp only [vop, ho, hx])
    · rename_i hne
      refine ⟨(sliceV_agr hv (fun j _ => Agr.refl hp j)).1, fun hp2 ha => ?_⟩
      have := (sliceV_agr hv (hp2 := hp2) (fun j hj => ha j (rd (by rw [ho]; rfl) x (by rw [ho]; simp [Op.operands]) j hj))).2
      simp only [vop, ho]
      exact this
  case lookup ty x k ok =>
    simp only [vop, ho] at hv
    split at hv
    · rename_i u hx; exact viaPure hv (fun hp2 => by simp only [vop, ho, hx])
    · rename_i hne
      refine ⟨(lookupV_agr hv (fun j _ => Agr.refl hp j)).1, fun hp2 ha => ?_⟩
      have := (lookupV_agr hv (hp2 := hp2) (fun j hj => ha j (rd (by rw [ho]; rfl) x (by rw [ho]; simp [Op.operands]) j hj))).2
      simp only [vop, ho]
      exact this
  case extract x i =>
    simp only [vop, ho] at hv ⊢
    split at hv
    · cases hv; exact ⟨rfl, fun _ _ => rfl⟩
    · cases hv
  case buildSlice ty n ps =>
    have hpl2 : ∀ x ∈ (ps.toList.map fun (_, x) => ev t x), ids x = [] := by
      intro x hx
      obtain ⟨q, hq, rfl⟩ := List.mem_map.1 hx
      rw [ho] at hpl
      have := List.all_eq_true.1 hpl q hq
      simpa using this
    obtain ⟨ys, hys⟩ := frzAll_plain hpl2
    simp only [vop, ho, hys] at hv ⊢
    split at hv
    · split at hv
      · rename_i sz z vs hp1 hsz hz hfr
        cases hfr
        split at hv
        · rename_i cs hcs
          by_cases hq : (Nat.ble (n * sz) 16777216 && Nat.ble 1 sz && Nat.beq (cellsA (abs1 z)).length sz && Nat.beq cs.length (n * sz) && cs.all imm0 && cs.all one) = true
          · rw [hq, cond_true] at hv
            by_cases hn : Nat.beq n 0 = true
            · rw [hn, cond_true] at hv; cases hv; exact ⟨rfl, fun _ _ => by simp only [hsz, hz, hcs, hq, cond_true, hn]⟩
            · have hn' := Bool.eq_false_iff.2 hn
              rw [hn', cond_false] at hv; cases hv; exact ⟨rfl, fun _ _ => by simp only [hsz, hz, hcs, hq, cond_true, hn', cond_false]⟩
          · rw [Bool.eq_false_iff.2 hq, cond_false] at hv; cases hv
        · cases hv
      · cases hv
    · cases hv
  case call c =>
    cases hc : c.callee with
    | value f => rw [ho] at hl; simp [light, hc] at hl
    | invoke r nm => rw [ho] at hl; simp [light, hc] at hl
    | builtin b =>
      cases b
      case append => rw [ho] at hl; simp [light, hc] at hl
      case delete => rw [ho] at hl; simp [light, hc] at hl
      case clear => rw [ho] at hl; simp [light, hc] at hl
      case copy => rw [ho] at hl; simp [light, hc] at hl
      case len =>
        simp only [vop, ho, hc] at hv
        split at hv
        · rename_i x ty e1 e2
          split at hv
          · rename_i n hn
            split at hv
            · rename_i e hu
              cases hv
              refine ⟨rfl, fun hp2 ha => ?_⟩
              have := lenV_agr hn (hp2 := hp2) (fun j hj => ha j (rd (by rw [ho]; simp [bare, hc]) x (by rw [ho]; simp [Op.operands, Call.operands, hc, e1]) j hj))
              simp only [vop, ho, hc, e1, e2, this, hu]
            · cases hv
          · rename_i hn
            split at hv
            · rename_i n hn3
              split at hv
              · rename_i kt e hu
                cases hv
                refine ⟨rfl, fun hp2 ha => ?_⟩
                have h5 := mlenV_agr hn3 (hp2 := hp2) (fun j hj => ha j (rd (by rw [ho]; simp [bare, hc]) x (by rw [ho]; simp [Op.operands, Call.operands, hc, e1]) j hj))
                have h6 : lenV hp2 (ev t x) = none := by
                  revert hn3
                  cases ev t x <;> intro hn3 <;> first | rfl | (simp [mlenV] at hn3)
                simp only [vop, ho, hc, e1, e2, h6, h5, hu]
              · cases hv
            · rename_i hn3
              obtain ⟨h3, h4⟩ := pure1_heap hv
              refine ⟨h3, fun hp2 ha => ?_⟩
              have hn2 : lenV hp2 (ev t x) = none ∧ mlenV hp2 (ev t x) = none := by
                have hcx := pure1_conc hv x (by rw [ho]; simp [Op.operands, Call.operands, hc, e1])
                revert hcx
                cases ev t x <;> intro hcx <;> first | exact ⟨rfl, rfl⟩ | (simp [conc] at hcx)
              simp only [vop, ho, hc, e1, e2, hn2.1, hn2.2, h4]
        · rename_i h1
          refine viaPure hv (fun hp2 => ?_)
          simp only [vop, ho, hc]
      all_goals
        simp only [vop, ho, hc] at hv
        exact viaPure hv (fun hp2 => by simp only [vop, ho, hc])
  all_goals (rw [ho] at hl; simp [light] at hl)
end Go.Vm
