/- Regions that draw their order: all orders, one by one. -/
import Derived.Test.YtlemialjfnbchaaGreatVmD6

namespace Go.Vm
open Go
theorem eqX_ok {x y : AV} (h : eqX x y = true) : x = y := by
  unfold eqX at h
  split at h
  · rfl
  · rw [eqList_ok eqA_ok h]
  · simp only [Bool.and_eq_true] at h
    rw [Nat.eq_of_beq_eq_true h.1.1, eqList_ok eqA_ok h.1.2, eqList_ok eqA_ok h.2]
  · exact eqA_ok _ _ h
theorem eqT_ok : ∀ {t u : Tr}, eqT t u = true → t = u
  | .lf, .lf, _ => rfl
  | .nd l v r, .nd l' v' r', h => by
    simp only [eqT, Bool.and_eq_true] at h
    rw [eqT_ok h.1.1, eqX_ok h.1.2, eqT_ok h.2]
  | .lf, .nd _ _ _, h => by cases h
  | .nd _ _ _, .lf, h => by cases h
theorem eqH_ok : ∀ {l l' : List Blk}, eqH l l' = true → l = l'
  | [], [], _ => rfl
  | ⟨c, e, g, x, y, k⟩ :: r, ⟨c', e', g', x', y', k'⟩ :: r', h => by
    simp only [eqH, Bool.and_eq_true] at h
    obtain ⟨⟨⟨⟨⟨⟨h1, h2⟩, h3⟩, h4⟩, h5⟩, h7⟩, h6⟩ := h
    rw [eqList_ok eqA_ok h1, Nat.eq_of_beq_eq_true h2, Nat.eq_of_beq_eq_true h3, eq_of_beq h4, eq_of_beq h5, eqKs_ok h7, eqH_ok h6]
  | [], _ :: _, h => by cases h
  | _ :: _, [], h => by cases h
section
variable {P : Program} {W0 : World} {O S0 : Nat → Prop} {m0 : EM} {N : Nat} {run : FuncId → List AV → List Blk → Option (AV × List Blk)} {M : Mode} {ops : Array Oper}
theorem anyV_ok {Q : Exit → Act → World → Prop} (hrun : RunOk P run) (hb : N < 16383) (hd : ∀ o ∈ ops.toList, ∀ d, o.dst = some d → d < N) {tE : Tr} {hpE : List Blk} (hQ : ∀ a' w', Sim W0 O S0 m0 N tE hpE a' w' → Q .normal a' w') :
    ∀ (n : Nat) (listed : Array Bool) (t : Tr) (hp : List Blk) (a : Act) (w : World), anyV P run M ops tE hpE n listed t hp = true → Sim W0 O S0 m0 N t hp a w → wpAny P .any ops Q n listed a w
  | 0, listed, t, hp, a, w, h, hs => by
    simp only [anyV, Bool.and_eq_true] at h
    obtain ⟨⟨h1, h2⟩, h3⟩ := h
    rw [eqT_ok h2, eqH_ok h3] at hs
    refine ⟨?_, hQ a w hs⟩
    split at h1
    · assumption
    · cases h1
  | n + 1, listed, t, hp, a, w, h, hs => by
    simp only [anyV, Bool.and_eq_true] at h
    obtain ⟨h1, h2⟩ := h
    refine ⟨fun e => ?_, fun i hi => ?_⟩
    · rw [e] at h1; cases h1
    · have := List.all_eq_true.1 h2 i hi
      split at this
      · rename_i o ho
        split at this
        · rename_i t1 hp1 hop
          have hmem : o ∈ ops.toList := by
            obtain ⟨hlt, e⟩ := Array.getElem?_eq_some_iff.1 ho
            rw [← e]; simp
          exact opV_ok hrun ho (hd o hmem) hb hop hs (fun a' w' hs' => anyV_ok hrun hb hd hQ n _ t1 hp1 a' w' this hs')
        · cases this
      · cases this
end
end Go.Vm
