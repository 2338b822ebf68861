/- Contracts that are told by a relation, for calls whose arguments lead to no block. -/
import Derived.Test.YtlemialjfnbchaaGreatVmG
import Derived.Test.YtlemialjfnbchaaGreatVmUt

namespace Go.Vm
open Go
open Classical in
/-- what is told of arguments, if it is told -/
noncomputable def relF (R : List AV → AV → Prop) (args : List AV) (hp : List Blk) : Option (AV × List Blk) :=
  if h : hp = [] ∧ ∃ r, R args r then some (Classical.choose h.2, []) else none
theorem relF_con {P : Program} {f : FuncId} {R : List AV → AV → Prop} (hR : ∀ args r, R args r → FnOk P f args [] r []) {args : List AV} {hp hp' : List Blk} {r : AV} (h : relF R args hp = some (r, hp')) : FnOk P f args hp r hp' := by
  unfold relF at h
  split at h
  · rename_i hh
    cases h
    obtain ⟨rfl, h2⟩ := hh
    exact hR args _ (Classical.choose_spec h2)
  · cases h
theorem relF_eq {R : List AV → AV → Prop} {args : List AV} {r : AV} (h : R args r) (hu : ∀ r', R args r' → r' = r) : outF (relF R args []) = r := by
  unfold relF
  rw [dif_pos ⟨rfl, r, h⟩]
  exact hu _ (Classical.choose_spec (⟨r, h⟩ : ∃ r, R args r))
open Classical in
/-- the same with a memory -/
noncomputable def relH (R : List AV → List Blk → AV → List Blk → Prop) (args : List AV) (hp : List Blk) : Option (AV × List Blk) :=
  if h : ∃ q : AV × List Blk, R args hp q.1 q.2 then some (Classical.choose h) else none
theorem relH_con {P : Program} {f : FuncId} {R : List AV → List Blk → AV → List Blk → Prop} (hR : ∀ args hp r hp', R args hp r hp' → FnOk P f args hp r hp') {args : List AV} {hp hp' : List Blk} {r : AV} (h : relH R args hp = some (r, hp')) : FnOk P f args hp r hp' := by
  unfold relH at h
  split at h
  · rename_i hh
    have := Classical.choose_spec hh
    injection h with h
    rw [h] at this
    exact hR _ _ _ _ this
  · cases h
theorem relH_eq {R : List AV → List Blk → AV → List Blk → Prop} {args : List AV} {hp hp' : List Blk} {r : AV} (h : R args hp r hp') (hu : ∀ r1 hp1, R args hp r1 hp1 → r1 = r ∧ hp1 = hp') : outFH (relH R args hp) = .tup [r, .agg (hp'.map encB)] := by
  unfold relH
  have hh : ∃ q : AV × List Blk, R args hp q.1 q.2 := ⟨(r, hp'), h⟩
  rw [dif_pos hh]
  obtain ⟨h1, h2⟩ := hu _ _ (Classical.choose_spec hh)
  show AV.tup [(Classical.choose hh).1, .agg ((Classical.choose hh).2.map encB)] = _
  rw [h1, h2]
/-- from here on: a state as the start of what comes -/
theorem HS.here {W0 : World} {O S0 : Nat → Prop} {m0 : EM} {hp : List Blk} {m : EM} {S : Nat → Prop} {w : World} (h : HS W0 O S0 m0 hp m S w) : HS w (own0 hp m) S m hp m S w where
  dom := h.dom
  blk := h.blk
  inj := h.inj
  sok := h.sok
  ro i b e pl hb he hpl := ⟨(h.ro i b e pl hb he hpl).1, fun hr => ⟨((h.ro i b e pl hb he hpl).2 hr).1, .inl ⟨i, b, e, pl, hb, hr, he, hpl, rfl⟩⟩⟩
  org i e pl he hpl := .inr ⟨i, e, pl, he, hpl, rfl⟩
  os := rfl
  tape := rfl
  out := rfl
  size := Nat.le_refl _
  frame _ _ _ := rfl
  snew _ hb := .inl hb
  smono _ hb := hb
/-- what is told where a block is not written any more holds where it may be written as well -/
theorem FnOk.thaw {P : Program} {f : FuncId} {args : List AV} {hp hp' : List Blk} {r : AV} {i : Nat} {b : Blk} (hb : hp[i]? = some b) (h : FnOk P f args (hp.set i { b with ro := true }) r hp') : FnOk P f args hp r hp' := by
  intro m S w args' hs hr
  obtain ⟨S', g1, g2, g3⟩ := hs.freeze hb
  have hd := h m S' w args' g1.here (hr.mono (Keeps.refl _ _) g2 (Ext.refl _))
  refine hd.mono ?_
  rintro e w' ⟨v', m', S2, rfl, q1, q2, q3, q4, q5⟩
  exact ⟨v', m', S2, rfl, g1.rebase q1, q2, fun b hb => q3 b (g2 b hb), fun b hb => q4 b (g2 b hb), q5⟩
end Go.Vm
