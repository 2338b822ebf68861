/- Triples over the virtual memory: code with loops of unknown length. -/
import Derived.Test.YtlemialjfnbchaaVmG
import Derived.LoopN
namespace Go.Vm
open Go

section
variable {P : Program} {N K : Nat}

theorem Tri.mono {c : Code} {t : Tr} {hp : List Blk} {Post Post' : Ex → Tr → List Blk → Prop} (h : Tri P N K c t hp Post) (hi : ∀ x t' hp', Post x t' hp' → Post' x t' hp') : Tri P N K c t hp Post' := by
  intro W0 O S0 m0 a w hm hs
  refine wp_mono (h W0 O S0 m0 a w hm hs) ?_
  rintro e a' w' ⟨x, t', hp', rfl, h1, h2⟩
  exact ⟨x, t', hp', rfl, hi _ _ _ h1, h2⟩
/-- code that the evaluator runs through -/
theorem Tri.run {run : Run} {M : Mode} {n : Nat} {c : Code} {t t' : Tr} {hp hp' : List Blk} {x : Ex} {Post : Ex → Tr → List Blk → Prop} (hrun : RunOk P run) (hN : N < 16383) (h : exV P run M N n c t hp = some (x, t', hp')) (hq : Post x t' hp') : Tri P N K c t hp Post := by
  intro W0 O S0 m0 a w hm hs
  refine wp_mono ((exV_both hrun hN n).1 c t _ x t' hp' a w h hs) ?_
  rintro e a' w' ⟨rfl, h2⟩
  exact ⟨x, t', hp', rfl, hq, h2⟩
theorem Tri.seq {c1 c2 : Code} {t : Tr} {hp : List Blk} {Post Mid : Ex → Tr → List Blk → Prop} (h : Tri P N K c1 t hp Mid) (h1 : ∀ t' hp', Mid .nrm t' hp' → Tri P N K c2 t' hp' Post) (h2 : ∀ x t' hp', x ≠ .nrm → Mid x t' hp' → Post x t' hp') : Tri P N K (.seq c1 c2) t hp Post := by
  intro W0 O S0 m0 a w hm hs
  refine wp_seq (wp_mono (h W0 O S0 m0 a w hm hs) ?_)
  rintro e a' w' ⟨x, t', hp', rfl, k1, k2⟩
  cases x with
  | nrm => exact h1 t' hp' k1 W0 O S0 m0 a' w' hm k2
  | exit id => exact ⟨_, t', hp', rfl, h2 _ _ _ (by simp) k1, k2⟩
  | goto l => exact ⟨_, t', hp', rfl, h2 _ _ _ (by simp) k1, k2⟩
  | ret => exact ⟨_, t', hp', rfl, h2 _ _ _ (by simp) k1, k2⟩
theorem Tri.cond {y : Operand} {q : Bool} {c1 c2 : Code} {t : Tr} {hp : List Blk} {Post : Ex → Tr → List Blk → Prop} (hv : ev t y = .p (.bool q)) (h1 : q = true → Tri P N K c1 t hp Post) (h2 : q = false → Tri P N K c2 t hp Post) : Tri P N K (.cond y c1 c2) t hp Post := by
  intro W0 O S0 m0 a w hm hs
  have he : a.eval y = .bool q := by
    obtain ⟨m, S, k1, k2, k3, k4, k5⟩ := hs
    have := ev_ok k3 y
    rw [hv] at this
    exact isP_ok (x := .p (.bool q)) rfl this
  cases q with
  | true => exact wp_cond_true he (h1 rfl W0 O S0 m0 a w hm hs)
  | false => exact wp_cond_false he (h2 rfl W0 O S0 m0 a w hm hs)
def Ex.inBlock (id : Nat) : Ex → Ex
  | .exit j => if j = id then .nrm else .exit j
  | x => x
theorem Tri.block {id : Nat} {c : Code} {t : Tr} {hp : List Blk} {Post : Ex → Tr → List Blk → Prop} (h : Tri P N K c t hp fun x t' hp' => Post (x.inBlock id) t' hp') : Tri P N K (.block id c) t hp Post := by
  intro W0 O S0 m0 a w hm hs
  refine wp_block (wp_mono (h W0 O S0 m0 a w hm hs) ?_)
  rintro e a' w' ⟨x, t', hp', rfl, k1, k2⟩
  cases x with
  | exit j =>
    simp only [Ex.inBlock] at k1
    by_cases hj : j = id
    · rw [if_pos hj] at k1
      simp only [exOf, Exit.inBlock, if_pos hj]
      exact ⟨.nrm, t', hp', rfl, k1, k2⟩
    · rw [if_neg hj] at k1
      simp only [exOf, Exit.inBlock, if_neg hj]
      exact ⟨.exit j, t', hp', rfl, k1, k2⟩
  | nrm => exact ⟨.nrm, t', hp', rfl, k1, k2⟩
  | goto l => exact ⟨.goto l, t', hp', rfl, k1, k2⟩
  | ret => exact ⟨.ret, t', hp', rfl, k1, k2⟩
/-- what is not looked at any more may be forgotten -/
theorem Tri.forget {c : Code} {t t' : Tr} {hp : List Blk} {Post : Ex → Tr → List Blk → Prop} (hf : ∀ i, t'.get i = .top ∨ t'.get i = t.get i) (h : Tri P N K c t' hp Post) : Tri P N K c t hp Post := by
  intro W0 O S0 m0 a w hm hs
  obtain ⟨m, S, k1, k2, k3, k4, k5⟩ := hs
  refine h W0 O S0 m0 a w hm ⟨m, S, k1, k2, fun i => ?_, k4, k5⟩
  rcases hf i with e | e
  · rw [e]; exact .top _ _
  · rw [e]; exact k3 i
/-- a loop that ends -/
theorem Tri.loop {c : Code} {Post : Ex → Tr → List Blk → Prop} (I : Nat → Tr → List Blk → Prop) (h : ∀ k t hp, I k t hp → Tri P N K c t hp fun x t' hp' => (x = .nrm ∧ ∃ j, k = j + 1 ∧ I j t' hp') ∨ (x ≠ .nrm ∧ Post x t' hp')) {k : Nat} {t : Tr} {hp : List Blk} (h0 : I k t hp) : Tri P N K (.loop c) t hp Post := by
  intro W0 O S0 m0 a w hm hs
  refine wp_loop_rounds (k + 1) ?_
  have key : ∀ k t hp a w, I k t hp → Sim W0 O S0 m0 N t hp a w → Code.rounds P c (fun e a' w' => ∃ x t' hp', e = exOf x ∧ Post x t' hp' ∧ Sim W0 O S0 m0 N t' hp' a' w') (k + 1) a w := by
    intro k
    induction k with
    | zero =>
      intro t hp a w hi hs
      refine wp_mono (h 0 t hp hi W0 O S0 m0 a w hm hs) ?_
      rintro e a' w' ⟨x, t', hp', rfl, (⟨rfl, j, hj, _⟩ | ⟨hx, k1⟩), k2⟩
      · omega
      · cases x with
        | nrm => exact absurd rfl hx
        | exit id => exact ⟨_, t', hp', rfl, k1, k2⟩
        | goto l => exact ⟨_, t', hp', rfl, k1, k2⟩
        | ret => exact ⟨_, t', hp', rfl, k1, k2⟩
    | succ k ih =>
      intro t hp a w hi hs
      refine wp_mono (h (k + 1) t hp hi W0 O S0 m0 a w hm hs) ?_
      rintro e a' w' ⟨x, t', hp', rfl, (⟨rfl, j, hj, hi'⟩ | ⟨hx, k1⟩), k2⟩
      · have : j = k := by omega
        subst this
        exact ih t' hp' a' w' hi' k2
      · cases x with
        | nrm => exact absurd rfl hx
        | exit id => exact ⟨_, t', hp', rfl, k1, k2⟩
        | goto l => exact ⟨_, t', hp', rfl, k1, k2⟩
        | ret => exact ⟨_, t', hp', rfl, k1, k2⟩
  exact key k t hp a w h0 hs
end
end Go.Vm
