/- Code in the virtual memory, the second half. -/
import Derived.Test.YtlemialjfnbchaaGreatVmUt
import Derived.Test.YtlemialjfnbchaaGreatVmN

namespace Go.Vm
open Go

section
variable {P : Program} {W0 : World} {O S0 : Nat → Prop} {m0 : EM} {hp hp' : List Blk} {t t' : Tr} {a : Act} {w : World} {N : Nat}

theorem dsts_ok {ops : Array Oper} (h : dstsOk N ops = true) : ∀ o ∈ ops.toList, ∀ d, o.dst = some d → d < N := by
  intro o ho d hd
  have := List.all_eq_true.1 h o ho
  rw [hd] at this
  exact Nat.le_of_ble_eq_true this
theorem regV_ok {run : FuncId → List AV → List Blk → Option (AV × List Blk)} {M : Mode} {ops : Array Oper} {id : Nat} {draw : Bool} {Q : Exit → Act → World → Prop} (hrun : RunOk P run) (hb : N < 16383)
    (h : regV P run M N ops draw t hp = some (t', hp')) (hs : Sim W0 O S0 m0 N t hp a w) (hQ : ∀ a' w', Sim W0 O S0 m0 N t' hp' a' w' → Q .normal a' w') : (Code.region id ops draw).wp P Q a w := by
  unfold regV at h
  cases hd : dstsOk N ops with
  | false => rw [hd] at h; cases h
  | true =>
    rw [hd, cond_true] at h
    cases draw with
    | false =>
      rw [cond_false] at h
      refine wp_region ?_
      have := opsV_ok (Q := Q) hrun hb (dsts_ok hd) ops.toList 0 t hp a w (fun j => by simp) h hs hQ
      rwa [Array.length_toList, ← List.range_eq_range'] at this
    | true =>
      rw [cond_true] at h
      cases hm : P.follows .mixedOrders with
      | false => rw [hm] at h; cases h
      | true =>
        rw [hm, cond_true] at h
        split at h
        · rename_i r h1
          cases h
          cases hq : planOk ops (planOf ops) with
          | false => rw [hq] at h1; cases h1
          | true =>
            rw [hq, cond_true] at h1
            exact planV_ok hrun hb (dsts_ok hd) hm hq h1 hs hQ
        · unfold anyR at h
          split at h
          · rename_i r h1
            cases h
            exact treeRz_ok hrun hb (dsts_ok hd) hm h1 hs hQ
          split at h
          · rename_i r h1
            cases h
            exact treeR_ok hrun hb (dsts_ok hd) hm h1 hs hQ
          unfold anyR0 at h
          split at h
          · rename_i t1 hp1 h1
            cases ha : anyV P run M ops t1 hp1 ops.size (Array.replicate ops.size false) t hp with
            | false => rw [ha] at h; cases h
            | true =>
              rw [ha, cond_true] at h
              cases h
              refine wp_region_any hm ?_
              have hs1 : Sim W0 O S0 m0 N t hp a w.drew := by
                obtain ⟨m, S, k1, k2, k3, k4, k5⟩ := hs
                exact ⟨m, S, k1.drew, k2, k3.drew, k4, k5⟩
              exact anyV_ok hrun hb (dsts_ok hd) hQ _ _ _ _ _ _ ha hs1
          · cases h

def PostV (W0 : World) (O S0 : Nat → Prop) (m0 : EM) (N : Nat) (x : Ex) (t : Tr) (hp : List Blk) (e : Exit) (a : Act) (w : World) : Prop := e = exOf x ∧ Sim W0 O S0 m0 N t hp a w

/-- jumps inside a scope -/
theorem scope_ok {ex : Code → Tr → List Blk → Option (Ex × Tr × List Blk)} {body : Code} {x : Ex} (hex : ∀ c t hp x t' hp' a w, ex c t hp = some (x, t', hp') → Sim W0 O S0 m0 N t hp a w → c.wp P (PostV W0 O S0 m0 N x t' hp') a w) :
    ∀ (n : Nat) (c : Code) (t : Tr) (hp : List Blk) (a : Act) (w : World), scopeR ex body n c t hp = some (x, t', hp') → Sim W0 O S0 m0 N t hp a w → ∀ (b : Frame) (k : List Item) (cs : List Frame),
      ∃ e a' w', PostV W0 O S0 m0 N x t' hp' e a' w' ∧ Arrives P (lone (b.at a (.code c :: .inScope body :: k)) cs w) b k cs e a' w'
  | 0, c, t, hp, a, w, h, hs, b, k, cs => by simp [scopeR] at h
  | n + 1, c, t, hp, a, w, h, hs, b, k, cs => by
    unfold scopeR at h
    split at h
    · rename_i l t1 hp1 hc
      obtain ⟨e, a1, w1, ⟨rfl, hs1⟩, harr⟩ := hex c t hp _ t1 hp1 a w hc hs b (.inScope body :: k) cs
      split at h
      · rename_i rest hr
        obtain ⟨e2, a2, w2, hp2, harr2⟩ := scope_ok hex n rest t1 hp1 a1 w1 h hs1 b k cs
        refine ⟨e2, a2, w2, hp2, .of_steps (harr _ ?_) harr2⟩
        simp [gotoIn, hr]
      · rename_i hr
        cases h
        exact ⟨_, a1, w1, ⟨rfl, hs1⟩, fun k' hk => harr k' (by simp [gotoIn, hr, hk])⟩
    · rename_i r hne
      rw [h] at hne
      obtain ⟨e, a1, w1, ⟨rfl, hs1⟩, harr⟩ := hex c t hp x t' hp' a w h hs b (.inScope body :: k) cs
      refine ⟨_, a1, w1, ⟨rfl, hs1⟩, ?_⟩
      cases x with
      | nrm => exact Steps.trans harr (.one step_inScope)
      | exit id => exact fun k' hk => harr k' (by simp [exitTo, hk])
      | goto l => exact absurd rfl (hne l t' hp')
      | ret => exact harr

theorem exV_both {run : FuncId → List AV → List Blk → Option (AV × List Blk)} {M : Mode} (hrun : RunOk P run) (hb : N < 16383) :
    ∀ (n : Nat), (∀ (c : Code) (t : Tr) (hp : List Blk) (x : Ex) (t' : Tr) (hp' : List Blk) (a : Act) (w : World), exV P run M N n c t hp = some (x, t', hp') → Sim W0 O S0 m0 N t hp a w → c.wp P (PostV W0 O S0 m0 N x t' hp') a w) ∧
      (∀ (c1 : Code) (t : Tr) (hp : List Blk) (x : Ex) (t' : Tr) (hp' : List Blk) (a : Act) (w : World), exV P run M N n (.loop c1) t hp = some (x, t', hp') → Sim W0 O S0 m0 N t hp a w → ∀ (b : Frame) (k : List Item) (cs : List Frame),
        ∃ e a' w', PostV W0 O S0 m0 N x t' hp' e a' w' ∧ Arrives P (lone (b.at a (.inLoop c1 :: k)) cs w) b k cs e a' w')
  | 0 => ⟨fun c t hp x t' hp' a w h hs => by simp [exV] at h, fun c t hp x t' hp' a w h hs => by simp [exV] at h⟩
  | n + 1 => by
    obtain ⟨ih, ihl⟩ := exV_both hrun hb (M := M) n
    have round : ∀ (c1 : Code) (t : Tr) (hp : List Blk) (x : Ex) (t' : Tr) (hp' : List Blk) (a : Act) (w : World), exV P run M N (n + 1) (.loop c1) t hp = some (x, t', hp') → Sim W0 O S0 m0 N t hp a w → ∀ (b : Frame) (k : List Item) (cs : List Frame),
        ∃ e a' w', PostV W0 O S0 m0 N x t' hp' e a' w' ∧ Arrives P (lone (b.at a (.code c1 :: .inLoop c1 :: k)) cs w) b k cs e a' w' := by
      intro c1 t hp x t' hp' a w h hs b k cs
      simp only [exV] at h
      split at h
      · rename_i t1 hp1 h1
        obtain ⟨e, a1, w1, ⟨rfl, hs1⟩, harr⟩ := ih c1 t hp _ t1 hp1 a w h1 hs b (.inLoop c1 :: k) cs
        obtain ⟨e2, a2, w2, hq2, harr2⟩ := ihl c1 t1 hp1 x t' hp' a1 w1 h hs1 b k cs
        exact ⟨e2, a2, w2, hq2, .of_steps harr harr2⟩
      · rename_i r hne
        obtain ⟨e, a1, w1, ⟨rfl, hs1⟩, harr⟩ := ih c1 t hp x t' hp' a w h hs b (.inLoop c1 :: k) cs
        refine ⟨_, a1, w1, ⟨rfl, hs1⟩, ?_⟩
        cases x with
        | nrm => exact absurd h (hne t' hp')
        | exit id => exact .pass (x := .inLoop c1) rfl (fun _ _ => .inl (by simp [exOf])) harr
        | goto l => exact .pass (x := .inLoop c1) rfl (fun _ _ => .inl (by simp [exOf])) harr
        | ret => exact .pass (x := .inLoop c1) rfl (fun _ _ => .inl (by simp [exOf])) harr
    refine ⟨fun c t hp x t' hp' a w h hs => ?_, fun c1 t hp x t' hp' a w h hs b k cs => by
      obtain ⟨e, a', w', h1, h2⟩ := round c1 t hp x t' hp' a w h hs b k cs
      exact ⟨e, a', w', h1, .of_steps (.one step_inLoop) h2⟩⟩
    cases c with
    | skip => simp only [exV] at h; cases h; exact wp_skip ⟨rfl, hs⟩
    | label l => simp only [exV] at h; cases h; exact wp_label ⟨rfl, hs⟩
    | region id ops draw =>
      simp only [exV] at h
      split at h
      · rename_i t1 hp1 hr
        cases h
        exact regV_ok hrun hb hr hs (fun a' w' hs' => ⟨rfl, hs'⟩)
      · cases h
    | seq c1 c2 =>
      simp only [exV] at h
      refine wp_seq ?_
      split at h
      · rename_i t1 hp1 h1
        refine wp_mono (ih c1 t hp _ t1 hp1 a w h1 hs) ?_
        rintro e a' w' ⟨rfl, hs'⟩
        exact ih c2 t1 hp1 x t' hp' a' w' h hs'
      · rename_i r hne
        refine wp_mono (ih c1 t hp x t' hp' a w h hs) ?_
        rintro e a' w' ⟨rfl, hs'⟩
        cases x with
        | nrm => exact absurd h (hne t' hp')
        | exit id => exact ⟨rfl, hs'⟩
        | goto l => exact ⟨rfl, hs'⟩
        | ret => exact ⟨rfl, hs'⟩
    | cond y c1 c2 =>
      simp only [exV] at h
      split at h
      · rename_i q hq
        obtain ⟨m, S, h1, h2, h3, h4, h5⟩ := hs
        have he : a.eval y = .bool q := by
          have := ev_ok h3 y
          rw [hq] at this
          exact isP_ok (x := .p (.bool q)) rfl this
        cases q with
        | true => exact wp_cond_true he (ih c1 t hp x t' hp' a w h ⟨m, S, h1, h2, h3, h4, h5⟩)
        | false => exact wp_cond_false he (ih c2 t hp x t' hp' a w h ⟨m, S, h1, h2, h3, h4, h5⟩)
      · cases h
    | block id c1 =>
      simp only [exV] at h
      refine wp_block ?_
      split at h
      · rename_i id' t1 hp1 h1
        refine wp_mono (ih c1 t hp _ t1 hp1 a w h1 hs) ?_
        rintro e a' w' ⟨rfl, hs'⟩
        cases hq : Nat.beq id' id with
        | true =>
          rw [hq, cond_true] at h
          cases h
          have := Nat.eq_of_beq_eq_true hq
          subst this
          simp only [exOf, Exit.inBlock, if_true]
          exact ⟨rfl, hs'⟩
        | false =>
          rw [hq, cond_false] at h
          cases h
          have hne : id' ≠ id := fun e => by subst e; rw [Nat.beq_refl] at hq; cases hq
          simp only [exOf, Exit.inBlock, if_neg hne]
          exact ⟨rfl, hs'⟩
      · rename_i r hne
        refine wp_mono (ih c1 t hp x t' hp' a w h hs) ?_
        rintro e a' w' ⟨rfl, hs'⟩
        cases x with
        | exit id' => exact absurd h (hne id' t' hp')
        | nrm => exact ⟨rfl, hs'⟩
        | goto l => exact ⟨rfl, hs'⟩
        | ret => exact ⟨rfl, hs'⟩
    | loop c1 =>
      intro b k cs
      obtain ⟨e, a', w', h1, h2⟩ := round c1 t hp x t' hp' a w h hs b k cs
      exact ⟨e, a', w', h1, .of_steps (.one step_loop) h2⟩
    | exit id => simp only [exV] at h; cases h; exact wp_exit ⟨rfl, hs⟩
    | goto l => simp only [exV] at h; cases h; exact wp_goto ⟨rfl, hs⟩
    | scope c1 =>
      simp only [exV] at h
      intro b k cs
      obtain ⟨e, a', w', h1, h2⟩ := scope_ok (P := P) (fun c t hp x t' hp' a w => ih c t hp x t' hp' a w) n c1 t hp a w h hs b k cs
      exact ⟨e, a', w', h1, .of_steps (.one step_scope) h2⟩
    | ret => simp only [exV] at h; cases h; exact wp_ret ⟨rfl, hs⟩
    | rangeFunc g ps c1 c2 =>
      simp only [exV] at h
      split at h
      · rename_i hp2 h1
        cases h
        exact rangeE_ok hrun hb h1 hs (fun a' w' hs' => ⟨rfl, hs'⟩)
      · rename_i hp2 h1
        cases h
        exact rangeE_ok hrun hb h1 hs (fun a' w' hs' => ⟨rfl, hs'⟩)
      · cases h
    | refuse why => simp only [exV] at h; cases h
end
end Go.Vm
