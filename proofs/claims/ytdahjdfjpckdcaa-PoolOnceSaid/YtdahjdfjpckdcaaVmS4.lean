/- Loops over a map that only read: what is needed beside the triples. -/
import Derived.Test.YtdahjdfjpckdcaaVmS3
import Derived.Test.YtdahjdfjpckdcaaVmF
import Derived.Test.YtdahjdfjpckdcaaVmM
import Derived.Maps.RangeRun
namespace Go.Vm
open Go Go.RowKit

theorem hs_nil {w w' : World} {S0 S : Nat → Prop} {m m0 : EM} (hb : Below w.heap.size w w') (hm : ∀ i, m i = none) (hsok : ∀ b, S b → b < w'.heap.size) (hnew : ∀ b, S b → S0 b ∨ w.heap.size ≤ b) (hmono : ∀ b, S0 b → S b) :
    HS w (fun _ => False) S0 m0 [] m S w' where
  dom i := by simp [hm i]
  blk i b e h1 := by simp at h1
  inj i j e e' p q h1 := by rw [hm i] at h1; cases h1
  sok := hsok
  ro i b e pl h1 := by simp at h1
  org i e pl h1 := by rw [hm i] at h1; cases h1
  os := hb.os
  tape := hb.tape
  out := hb.output
  size := hb.size
  frame b hlt _ := hb.block b hlt
  snew b h1 := (hnew b h1).imp id .inr
  smono := hmono
theorem HS.below {w w' : World} {S0 S : Nat → Prop} {m m0 : EM} {hp : List Blk} (h : HS w (fun _ => False) S0 m0 hp m S w') : Below w.heap.size w w' :=
  ⟨h.os, h.tape, h.out, h.size, fun b hb => h.frame b hb (fun k => k)⟩

/-- a function that leaves all as it is and tells a plain value -/
theorem fn_pure {P : Program} {f : FuncId} {fn : Func} {c : Code} {args : List AV} {hp : List Blk} {v : Value} {N : Nat} (hfn : P.funcs[f]? = some fn) (hbody : fn.body = some c)
    (h : ∀ (m : EM) (S : Nat → Prop) (w : World) (args' : List Value), HS w (own0 hp m) S m hp m S w → RL w S m args args' →
      c.wp P (fun e a' w' => ∃ x t S0, e = exOf x ∧ (x = .nrm ∨ x = .ret) ∧ resV P t [] fn.results.toList = some [.p v] ∧ Sim w (fun _ => False) S0 noEM N t [] a' w')
        { tmps := args'.toArray ++ Array.replicate (fn.ntmps - args'.toArray.size) undef, defers := [] } w) : FnOk P f args hp (.p v) hp := by
  intro m S w args' hs hargs
  refine callsIn_wide.1 (callsIn_of_wp_marks (F := Fence.wide) (n := 0) hfn hbody trivial (wpIn_wide.2 ?_) rfl)
  refine wp_mono (h m S w args' hs hargs) ?_
  rintro e a1 w1 ⟨x, t, S0, rfl, hx, hres, m1, S1, h1, h2, h3, h4, h5⟩
  have hpost : ∀ w1 : World, HS w (fun _ => False) S0 noEM [] m1 S1 w1 → FrR w1 S1 m1 t a1 → ∃ v', (results fn a1.tmps).run P w1 = .ok v' w1 ∧ After w (own0 hp m) S m hp m S w (.p v) (.returned v') w1 := by
    intro w1 h1 h3
    obtain ⟨us, k1, k2⟩ := resV_ok h1 h3 hres
    obtain ⟨u, rfl⟩ : ∃ u, us = [u] := by
      have := k2.1
      match us, this with
      | [u], _ => exact ⟨u, rfl⟩
    have hu := isP_ok (x := .p v) rfl (k2.2 0 (by simp) (by simp))
    simp only [List.getElem_cons_zero] at hu
    subst hu
    refine ⟨u, ?_, after_nil hs h1.below⟩
    have hrun : (fn.results.mapM (fun (r : ResultVar) => (match r with | .tmp i => pure (a1.tmps.getD i undef) | .cell i ty => do loadVar ty (← asAddr (a1.tmps.getD i undef)) : Sem Value))).run P w1 = .ok #[u] w1 := by
      rw [Array.mapM_eq_mapM_toList, Sem.run_map]
      exact congrArg (fun r => Result.andThen r (fun (a : List Value) w' => Result.ok a.toArray w')) k1
    unfold results
    rw [Sem.run_bind]
    exact congrArg (fun r => Result.andThen r (fun (a : Array Value) w' => Sem.run P (pure (if h : a.size = 1 then a[0] else Value.tuple a)) w')) hrun
  rcases hx with rfl | rfl
  · exact leave_marks hpost a1.defers w1 h1 h3 h5
  · exact leave_marks hpost a1.defers w1 h1 h3 h5
/-! what the entries that have been seen amount to -/
def seenN (g : MapEntry → Nat) (seen : Array Nat) : List MapEntry → Nat
  | [] => 0
  | x :: l => (if seen.contains x.born then g x else 0) + seenN g seen l
theorem seenN_none (g : MapEntry → Nat) : ∀ l, seenN g #[] l = 0
  | [] => rfl
  | x :: l => by simp [seenN, seenN_none g l]
theorem seenN_other {g : MapEntry → Nat} {seen : Array Nat} {b : Nat} : ∀ {l : List MapEntry}, (∀ x ∈ l, x.born ≠ b) → seenN g (seen.push b) l = seenN g seen l
  | [], _ => rfl
  | x :: l, h => by
    unfold seenN
    rw [seenN_other (fun y hy => h y (List.mem_cons_of_mem _ hy))]
    have : (seen.push b).contains x.born = seen.contains x.born := by
      have := h x (List.mem_cons_self ..)
      rw [Bool.eq_iff_iff]
      simp [this]
    rw [this]
theorem seenN_push {g : MapEntry → Nat} {seen : Array Nat} {e : MapEntry} (hn : seen.contains e.born = false) : ∀ {l : List MapEntry}, e ∈ l → (l.map (·.born)).Nodup → seenN g (seen.push e.born) l = seenN g seen l + g e
  | [], h, _ => by cases h
  | x :: l, h, hd => by
    rw [List.map_cons, List.nodup_cons] at hd
    unfold seenN
    rcases List.mem_cons.1 h with rfl | h'
    · rw [seenN_other (fun y hy (q : y.born = e.born) => hd.1 (by rw [← q]; exact List.mem_map_of_mem (f := fun x : MapEntry => x.born) hy))]
      have : (seen.push e.born).contains e.born = true := by simp
      rw [this, hn]
      simp; omega
    · have hne : x.born ≠ e.born := fun q => hd.1 (q ▸ List.mem_map_of_mem (f := fun x : MapEntry => x.born) h')
      have : (seen.push e.born).contains x.born = seen.contains x.born := by
        rw [Bool.eq_iff_iff]; simp [hne]
      rw [this, seenN_push hn h' hd.2]
      omega
theorem seenN_all {g : MapEntry → Nat} {seen : Array Nat} : ∀ {l : List MapEntry}, (∀ x ∈ l, seen.contains x.born = true) → seenN g seen l = (l.map g).sum
  | [], _ => rfl
  | x :: l, h => by
    unfold seenN
    rw [h x (List.mem_cons_self ..), seenN_all (fun y hy => h y (List.mem_cons_of_mem _ hy))]
    simp
end Go.Vm
