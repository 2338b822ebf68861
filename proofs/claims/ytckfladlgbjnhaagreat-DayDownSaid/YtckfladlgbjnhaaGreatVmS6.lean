/- slices.Sorted of maps.Keys: several maps of ints; a map of strings that has no key. -/
import Derived.Test.YtckfladlgbjnhaaGreatVmS3
namespace Go.Vm
open Go Go.RowKit
def sortedAny : List Nat → List AV → List Blk → Option (AV × List Blk)
  | [], _, _ => none
  | k :: l, args, hp => match sortedKV k args hp with
    | some r => some r
    | none => sortedAny l args hp
theorem sortedAny_con {P : Program} {f : FuncId} {T : TypeId} : ∀ {l : List Nat}, (∀ k ∈ l, SortedKit P f k T) → ∀ {args : List AV} {hp hp' : List Blk} {r : AV}, sortedAny l args hp = some (r, hp') → FnOk P f args hp r hp'
  | [], _, args, hp, hp', r, h => by cases h
  | k :: l, hk, args, hp, hp', r, h => by
    unfold sortedAny at h
    split at h
    · rename_i q hq
      cases h
      exact sorted_con (hk k (by simp)) hq
    · exact sortedAny_con (fun q hq => hk q (by simp [hq])) h
def sortedNilV (kf : Nat) (args : List AV) (hp : List Blk) : Option (AV × List Blk) :=
  match args with
  | [.fn (.func f) [] [.ptr i g 0]] => cond (Nat.beq f kf)
    (match getB hp i g with
     | some b => cond (Nat.beq b.esz 0 && !b.row) (match b.cells with
       | [.mp j g'] => (match getM hp j g' with
         | some (ks, _) => (match ks with
           | [] => some (.p (.slice none 0 0), hp)
           | _ => none)
         | none => none)
       | _ => none) none
     | none => none) none
  | _ => none
def SortedNilKit (P : Program) (f kf : FuncId) : Prop := ∀ (w : World) (Bm b : Nat) (clock : Nat), Bm < w.heap.size → w.cell? ⟨Bm, 0, none⟩ = some (.map (some b)) → w.heap[b]? = some (.map #[] clock) →
  MapKept.Stamped #[] clock →
  Calls P f #[.func (.func kf) #[] #[.pointer (some ⟨Bm, 0, none⟩)]] w fun e w' => e = .returned (.slice none 0 0) ∧ Below w.heap.size w w'
theorem sortedNil_con {P : Program} {f kf : FuncId} (hk : SortedNilKit P f kf) {args : List AV} {hp hp' : List Blk} {r : AV} (h : sortedNilV kf args hp = some (r, hp')) : FnOk P f args hp r hp' := by
  unfold sortedNilV at h
  split at h
  · rename_i f' i g
    cases hf : Nat.beq f' kf with
    | false => rw [hf] at h; cases h
    | true =>
      rw [hf, cond_true] at h
      obtain rfl := Nat.eq_of_beq_eq_true hf
      split at h
      · rename_i b hb
        cases hz : (Nat.beq b.esz 0 && !b.row) with
        | false => rw [hz] at h; cases h
        | true =>
          rw [hz, cond_true] at h
          rw [Bool.and_eq_true] at hz
          split at h
          · rename_i j g' hcells
            split at h
            · rename_i ks mb hM
              intro m S w args' hs hr
              obtain ⟨u, rfl, hu⟩ : ∃ u, args' = [u] ∧ R w S m (.fn (.func f') [] [.ptr i g 0]) u := by
                have hl := hr.1
                match args', hl with
                | [u], _ => exact ⟨u, rfl, hr.2 0 (by simp) (by simp)⟩
              obtain ⟨e1, e2, e, he, heg, henil, hblk⟩ := getB_ok hs hb
              cases hu with
              | fn _ _ _ _ ys vs hy1 hy2 hv1 hv2 =>
                have : ys = [] := List.length_eq_zero_iff.1 hy1.symm
                subst this
                obtain ⟨v0, rfl⟩ : ∃ v0, vs = [v0] := by
                  match vs, hv1 with
                  | [v0], _ => exact ⟨v0, rfl⟩
                have hv := hv2 0 (by simp) (by simp)
                simp only [List.getElem_cons_zero] at hv
                obtain ⟨pl, hpl, rfl⟩ : ∃ pl, e.pl = some pl ∧ v0 = .pointer (some ⟨pl.b, pl.o + 0, none⟩) := by
                  generalize hx : AV.ptr i g 0 = x at hv
                  cases hv <;> cases hx
                  · rename_i e' pl h1 h2
                    rw [he] at h2; cases h2
                    exact ⟨pl, h1, rfl⟩
                  · rename_i e' a h1 h2
                    first
                      | (rw [he] at h1; cases h1; omega)
                      | (rw [he] at h2; cases h2; omega)
                obtain ⟨q1, q2, q3, q4, cs, q5, q6⟩ := hblk pl hpl
                have hrow : b.row = false := by simpa using hz.2
                rw [hrow, cond_false, hcells] at q6
                have ho := q3.2 (Nat.eq_of_beq_eq_true hz.1)
                obtain ⟨c0, rfl⟩ : ∃ c0, cs = [c0] := by
                  have := q6.1
                  match cs, this with
                  | [c0], _ => exact ⟨c0, rfl⟩
                have hc0 := q6.2 0 (by simp) (by simp)
                simp only [List.getElem_cons_zero] at hc0
                obtain ⟨_, _, _, e', pl', he', hpl', rfl, es, clock, hobj, hkeys, _, hst⟩ := getM_ok hs hM hc0
                have hcell := q5 0 _ rfl
                rw [ho] at hcell ⊢
                split at h
                · cases h
                  have hes : es = #[] := by
                    have : es.toList = [] := List.map_eq_nil_iff.1 hkeys
                    exact Array.toList_eq_nil_iff.1 this
                  subst hes
                  refine (hk w pl.b pl'.b clock q2 hcell hobj hst).mono ?_
                  rintro e w' ⟨rfl, hbelow⟩
                  exact after_nil hs hbelow
                · cases h
            · cases h
          · cases h
      · cases h
  · cases h
end Go.Vm
