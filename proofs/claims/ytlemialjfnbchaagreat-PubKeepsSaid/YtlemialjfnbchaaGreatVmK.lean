/- Triples over the virtual memory: code with loops of unknown length. -/
import Derived.Test.YtlemialjfnbchaaGreatVmG
import Derived.LoopN

namespace Go.Vm
open Go

section
variable {P : Program} {N K : Nat}

theorem Tri.mono {c : Code} {t : Tr} {hp : List Blk} {Post Post' : Ex → Tr → List Blk → Prop} (h : Tri P N K c t hp Post) (hi : ∀ x t' hp', Post x t' hp' → Post' x t' hp') : Tri P N K c t hp Post' := by
  intro W0 O S0 m0 a w hm hs
  refine wp_mono (h W0 O S0 m0 a w hm hs) ?_
  rintro e a' w' ⟨x, t', hp', rfl, h1, h2⟩
  exact ⟨x, t', hp', rfl, hi _ _ _ h1, h2⟩
/-- code that the evaluator runs through -/
theorem Tri.run {run : Run} {M : Mode} {n : Nat} {c : Code} {t t' : Tr} {hp hp' : List Blk} {x : Ex} {Post : Ex → Tr → List Blk → Prop} (hrun : RunOk P run) (hN : N < 16383) (h : exV P run M N n c t hp = some (x, t', hp')) (hq : Post x t' hp') : Tri P N K c t hp Post := by
  intro W0 O S0 m0 a w hm hs
  refine wp_mono ((exV_both hrun hN n).1 c t _ x t' hp' a w h hs) ?_
  rintro e a' w' ⟨rfl, h2⟩
  exact ⟨x, t', hp', rfl, hq, h2⟩
theorem Tri.seq {c1 c2 : Code} {t : Tr} {hp : List Blk} {Post Mid : Ex → Tr → List Blk → Prop} (h : Tri P N K c1 t hp Mid) (h1 : ∀ t' hp', Mid .nrm t' hp' → Tri P N K c2 t' hp' Post) (h2 : ∀ x t' hp', x ≠ .nrm → Mid x t' hp' → Post x t' hp') : Tri P N K (.seq c1 c2) t hp Post := by
  intro W0 O S0 m0 a w hm hs
  refine wp_seq (wp_mono (h W0 O S0 m0 a w hm hs) ?_)
  rintro e a' w' ⟨x, t', hp', rfl, k1, k2⟩
  cases x with
  | nrm => exact h1 t' hp' k1 W0 O S0 m0 a' w' hm k2
  | exit id => exact ⟨_, t', hp', rfl, h2 _ _ _ (by simp) k1, k2⟩
  | goto l => exact ⟨_, t', hp', rfl, h2 _ _ _ (by simp) k1, k2⟩
  | ret => exact ⟨_, t', hp', rfl, h2 _ _ _ (by simp) k1, k2⟩
theorem Tri.cond {y : Operand} {q : Bool} {c1 c2 : Code} {t : Tr} {hp : List Blk} {Post : Ex → Tr → List Blk → Prop} (hv : ev t y = .p (.bool q)) (h1 : q = true → Tri P N K c1 t hp Post) (h2 : q = false → Tri P N K c2 t hp Post) : Tri P N K (.cond y c1 c2) t hp Post := by
  intro W0 O S0 m0 a w hm hs
  have he : a.eval y = .bool q := by
    obtain ⟨m, S, k1, k2, k3, k4, k5⟩ := hs
    have := ev_ok k3 y
    rw [hv] at this
    exact isP_ok (x := .p (.bool q)) rfl this
  cases q with
  | true => exact wp_cond_true he (h1 rfl W0 O S0 m0 a w hm hs)
  | false => exact wp_cond_false he (h2 rfl W0 O S0 m0 a w hm hs)
def Ex.inBlock (id : Nat) : Ex → Ex
  | .exit j => if j = id then .nrm else .exit j
  | x => x
theorem Tri.block {id : Nat} {c : Code} {t : Tr} {hp : List Blk} {Post : Ex → Tr → List Blk → Prop} (h : Tri P N K c t hp fun x t' hp' => Post (x.inBlock id) t' hp') : Tri P N K (.block id c) t hp Post := by
  intro W0 O S0 m0 a w hm hs
  refine wp_block (wp_mono (h W0 O S0 m0 a w hm hs) ?_)
  rintro e a' w' ⟨x, t', hp', rfl, k1, k2⟩
  cases x with
  | exit j =>
    simp only [Ex.inBlock] at k1
    by_cases hj : j = id
    · rw [if_pos hj] at k1
      simp only [exOf, Exit.inBlock, if_pos hj]
      exact ⟨.nrm, t', hp', rfl, k1, k2⟩
    · rw [if_neg hj] at k1
      simp only [exOf, Exit.inBlock, if_neg hj]
      exact ⟨.exit j, t', hp', rfl, k1, k2⟩
  | nrm => exact ⟨.nrm, t', hp', rfl, k1, k2⟩
  | goto l => exact ⟨.goto l, t', hp', rfl, k1, k2⟩
  | ret => exact ⟨.ret, t', hp', rfl, k1, k2⟩
/-- what is not looked at any more may be forgotten -/
theorem Tri.forget {c : Code} {t t' : Tr} {hp : List Blk} {Post : Ex → Tr → List Blk → Prop} (hf : ∀ i, t'.get i = .top ∨ t'.get i = t.get i) (h : Tri P N K c t' hp Post) : Tri P N K c t hp Post := by
  intro W0 O S0 m0 a w hm hs
  obtain ⟨m, S, k1, k2, k3, k4, k5⟩ := hs
  refine h W0 O S0 m0 a w hm ⟨m, S, k1, k2, fun i => ?_, k4, k5⟩
  rcases hf i with e | e
  · rw [e]; exact .top _ _
  · rw [e]; exact k3 i
/-- a loop that ends -/
theorem Tri.loop {c : Code} {Post : Ex → Tr → List Blk → Prop} (I : Nat → Tr → List Blk → Prop) (h : ∀ k t hp, I k t hp → Tri P N K c t hp fun x t' hp' => (x = .nrm ∧ ∃ j, k = j + 1 ∧ I j t' hp') ∨ (x ≠ .nrm ∧ Post x t' hp')) {k : Nat} {t : Tr} {hp : List Blk} (h0 : I k t hp) : Tri P N K (.loop c) t hp Post := by
  intro W0 O S0 m0 a w hm hs
  refine wp_loop_rounds (k + 1) ?_
  have key : ∀ k t hp a w, I k t hp → Sim W0 O S0 m0 N t hp a w → Code.rounds P c (fun e a' w' => ∃ x t' hp', e = exOf x ∧ Post x t' hp' ∧ Sim W0 O S0 m0 N t' hp' a' w') (k + 1) a w := by
    intro k
    induction k with
    | zero =>
      intro t hp a w hi hs
      refine wp_mono (h 0 t hp hi W0 O S0 m0 a w hm hs) ?_
      rintro e a' w' ⟨x, t', hp', rfl, (⟨rfl, j, hj, _⟩ | ⟨hx, k1⟩), k2⟩
      · omega
      · cases x with
        | nrm => exact absurd rfl hx
        | exit id => exact ⟨_, t', hp', rfl, k1, k2⟩
        | goto l => exact ⟨_, t', hp', rfl, k1, k2⟩
        | ret => exact ⟨_, t', hp', rfl, k1, k2⟩
    | succ k ih =>
      intro t hp a w hi hs
      refine wp_mono (h (k + 1) t hp hi W0 O S0 m0 a w hm hs) ?_
      rintro e a' w' ⟨x, t', hp', rfl, (⟨rfl, j, hj, hi'⟩ | ⟨hx, k1⟩), k2⟩
      · have : j = k := by omega
        subst this
        exact ih t' hp' a' w' hi' k2
      · cases x with
        | nrm => exact absurd rfl hx
        | exit id => exact ⟨_, t', hp', rfl, k1, k2⟩
        | goto l => exact ⟨_, t', hp', rfl, k1, k2⟩
        | ret => exact ⟨_, t', hp', rfl, k1, k2⟩
  exact key k t hp a w h0 hs
end
end Go.Vm

namespace Go.Vm
open Go

def mk : List (Nat × AV) → Tr
  | [] => .lf
  | (i, v) :: l => (mk l).set i v
theorem mk_get : ∀ (l : List (Nat × AV)), (∀ q ∈ l, q.1 < 16383) → ∀ j, (mk l).get j = .top ∨ (j, (mk l).get j) ∈ l
  | [], _, j => .inl rfl
  | (i, v) :: l, h, j => by
    simp only [mk]
    rw [Tr.get_set _ i j v (h (i, v) (by simp))]
    by_cases e : i = j
    · rw [if_pos e, e]; exact .inr (by simp)
    · rw [if_neg e]
      rcases mk_get l (fun q hq => h q (by simp [hq])) j with k | k
      · exact .inl k
      · exact .inr (by simp [k])
def seqs : List Code → Code → Code
  | [], c => c
  | a :: l, c => .seq a (seqs l c)
def exL (P : Program) (runs : RunT) (M : Mode) (N n : Nat) : List Code → Tr → List Blk → St → Option (Ex × Tr × List Blk × St)
  | [], t, hp, st => some (.nrm, t, hp, st)
  | c :: l, t, hp, st => match exS P runs M N n c t hp st with
    | some (.nrm, t', hp', st') => exL P runs M N n l t' hp' st'
    | r => r
/-- what is looked at of an end: how it is left, the slots that are kept, the memory, what must hold -/
def seen (keep : List Nat) (q : Ex × Tr × List Blk × St) : Ex × List AV × List Blk × St := (q.1, keep.map q.2.1.get, q.2.2.1, q.2.2.2)

section
variable {P : Program} {N K : Nat} {run : Run} {runs : RunT} {M : Mode}

theorem exL_tri (hrun : RunOk P run) (hr : RunsOk run runs) (hN : N < 16383) {n : Nat} {c : Code} {Post : Ex → Tr → List Blk → Prop} {x : Ex} {t' : Tr} {hp' : List Blk} {st' : St} : ∀ (l : List Code) (t : Tr) (hp : List Blk) (st : St), exL P runs M N n l t hp st = some (x, t', hp', st') →
    Later st st' ∧ (Hold st'.2 → (x = .nrm → Tri P N K c t' hp' Post) → (x ≠ .nrm → Post x t' hp') → Tri P N K (seqs l c) t hp Post)
  | [], t, hp, st, h => by
    simp only [exL] at h
    cases h
    exact ⟨Later.refl _, fun _ h1 _ => h1 rfl⟩
  | a :: l, t, hp, st, h => by
    simp only [exL] at h
    split at h
    · rename_i t1 hp1 st1 h1
      obtain ⟨k1, k2⟩ := exS_ok hr hN n _ _ _ _ _ _ _ _ h1
      obtain ⟨q1, q2⟩ := exL_tri hrun hr hN (c := c) (Post := Post) l t1 hp1 st1 h
      refine ⟨k1.trans q1, fun hh h2 h3 => ?_⟩
      refine Tri.seq (Mid := fun y t2 hp2 => y = .nrm ∧ t2 = t1 ∧ hp2 = hp1) (Tri.run hrun hN (k2 (q1.hold hh)) ⟨rfl, rfl, rfl⟩) ?_ ?_
      · rintro t2 hp2 ⟨_, rfl, rfl⟩; exact q2 hh h2 h3
      · rintro y t2 hp2 hy ⟨rfl, _, _⟩; exact absurd rfl hy
    · rename_i r hne
      obtain ⟨k1, k2⟩ := exS_ok hr hN n _ _ _ _ _ _ _ _ h
      refine ⟨k1, fun hh h2 h3 => ?_⟩
      have hx : x ≠ .nrm := fun e => by subst e; exact hne t' hp' st' h
      refine Tri.seq (Mid := fun y t2 hp2 => y = x ∧ t2 = t' ∧ hp2 = hp') (Tri.run hrun hN (k2 hh) ⟨rfl, rfl, rfl⟩) ?_ ?_
      · rintro t2 hp2 ⟨e, _, _⟩; exact absurd e.symm hx
      · rintro y t2 hp2 hy ⟨rfl, rfl, rfl⟩; exact h3 hx

theorem keep_get {t : Tr} : ∀ (keep : List Nat) (vals : List AV), keep.map t.get = vals → ∀ j v, (j, v) ∈ keep.zip vals → t.get j = v
  | [], _, _, j, v, hm => by simp at hm
  | i :: keep, vals, h, j, v, hm => by
    subst h
    rw [List.map_cons, List.zip_cons_cons, List.mem_cons] at hm
    rcases hm with hm | hm
    · cases hm; rfl
    · exact keep_get keep _ rfl j v hm
/-- from what is kept alone -/
theorem Tri.of_keep {c : Code} {t : Tr} {hp : List Blk} {Post : Ex → Tr → List Blk → Prop} {keep : List Nat} {vals : List AV} (hk : keep.map t.get = vals) (hb : (keep.all fun i => Nat.blt i 16383) = true) (h : Tri P N K c (mk (keep.zip vals)) hp Post) : Tri P N K c t hp Post := by
  refine Tri.forget (fun i => ?_) h
  have hlt : ∀ q ∈ keep.zip vals, q.1 < 16383 := by
    rintro ⟨j, v⟩ hq
    have := (List.of_mem_zip hq).1
    exact Nat.le_of_ble_eq_true (List.all_eq_true.1 hb j this)
  rcases mk_get _ hlt i with k | k
  · exact .inl k
  · exact .inr (keep_get keep vals hk i _ k).symm
/-- memory that nothing names any more is dropped -/
theorem Tri.drop {c : Code} {t : Tr} {hp sub : List Blk} {Post : Ex → Tr → List Blk → Prop} {keep : List Nat} {vals vals' : List AV} {js l : List Nat} (hpre : js = List.range K ++ l) (hn : js.Nodup) (hi : ∀ i ∈ js, i < hp.length) (hsub : pickB hp (posOf js) js = some sub)
    (hk : keep.map t.get = vals) (hb : (keep.all fun i => Nat.blt i 16383) = true) (hv : vals.map (ren (posOf js)) = vals') (h : Tri P N K c (mk (keep.zip vals')) sub Post) : Tri P N K c t hp Post := by
  intro W0 O S0 m0 a w hm hs
  obtain ⟨m, S, k1, k2, k3, k4, k5⟩ := hs
  obtain ⟨g1, g2⟩ := k1.gc hn hi hsub
  have hlt : ∀ q ∈ keep.zip vals', q.1 < 16383 := by
    rintro ⟨j, v⟩ hq
    have := (List.of_mem_zip hq).1
    exact Nat.le_of_ble_eq_true (List.all_eq_true.1 hb j this)
  refine h W0 O S0 m0 a w hm ⟨_, S, g1, ?_, fun i => ?_, k4, k5⟩
  · intro i e he
    obtain ⟨e', h1, h2⟩ := k2 i e he
    have hiK : i < K := by
      rcases Nat.lt_or_ge i K with q | q
      · exact q
      · rw [hm i q] at he; cases he
    refine ⟨e', ?_, h2⟩
    have : js[i]? = some i := by rw [hpre, List.getElem?_append_left (by simpa using hiK)]; simp [hiK]
    simp only [this]
    exact h1
  · rcases mk_get _ hlt i with e | e
    · rw [e]; exact .top _ _
    · generalize (mk (keep.zip vals')).get i = v at e
      subst hv
      rw [List.zip_map_right, List.mem_map] at e
      obtain ⟨⟨j, v0⟩, h1, h2⟩ := e
      cases h2
      have := keep_get keep vals hk j v0 h1
      exact ren_ok g2 v0 _ (this ▸ k3 j)
/-- a row in a slot is not written any more -/
theorem Tri.frz {c : Code} {t : Tr} {hp hp' : List Blk} {v : AV} {i : Nat} {Post : Ex → Tr → List Blk → Prop} (hi : i < 16383) (h : Vm.frz hp (t.get i) = some (v, hp')) (k : Tri P N K c (t.set i v) hp' Post) : Tri P N K c t hp Post := by
  intro W0 O S0 m0 a w hm hs
  obtain ⟨m, S, k1, k2, k3, k4, k5⟩ := hs
  obtain ⟨S', g1, g2, g3⟩ := frz_ok k1 h (k3 i)
  refine k W0 O S0 m0 a w hm ⟨m, S', g1, k2, fun j => ?_, k4, k5.mono (fun _ _ => rfl) g2⟩
  rw [Tr.get_set t i j v hi]
  by_cases e : i = j
  · rw [if_pos e, ← e]; exact g3
  · rw [if_neg e]; exact (k3 j).mono (fun _ _ => rfl) g2 (Ext.refl _)
/-- a step along a path, and then the rest -/
theorem Tri.step (hrun : RunOk P run) (hr : RunsOk run runs) (hN : N < 16383) {n : Nat} {l : List Code} {c : Code} {t : Tr} {hp hp' : List Blk} {Post : Ex → Tr → List Blk → Prop} {keep keep' : List Nat} {vals vals' : List AV} {orc : List (Nat × AV)} {x : Ex} {st : St} (hk : keep.map t.get = vals) (hb : (keep.all fun i => Nat.blt i 16383) = true)
    (h : (exL P runs M N n l (mk (keep.zip vals)) hp (orc, [])).map (seen keep') = some (x, vals', hp', st)) (hc : Hold st.2) (h1 : x = .nrm → ∀ t', keep'.map t'.get = vals' → Tri P N K c t' hp' Post) (h2 : x ≠ .nrm → ∀ t', keep'.map t'.get = vals' → Post x t' hp') : Tri P N K (seqs l c) t hp Post := by
  refine Tri.of_keep hk hb ?_
  cases hq : exL P runs M N n l (mk (keep.zip vals)) hp (orc, []) with
  | none => rw [hq] at h; cases h
  | some q =>
    obtain ⟨y, t', hp2, st2⟩ := q
    rw [hq] at h
    cases h
    exact (exL_tri hrun hr hN l _ _ _ hq).2 hc (fun e => h1 e t' rfl) (fun e => h2 e t' rfl)
/-- the same where nothing follows -/
theorem Tri.last (hrun : RunOk P run) (hr : RunsOk run runs) (hN : N < 16383) {n : Nat} {c : Code} {t : Tr} {hp hp' : List Blk} {Post : Ex → Tr → List Blk → Prop} {keep keep' : List Nat} {vals vals' : List AV} {orc : List (Nat × AV)} {x : Ex} {st : St} (hk : keep.map t.get = vals) (hb : (keep.all fun i => Nat.blt i 16383) = true)
    (h : (exS P runs M N n c (mk (keep.zip vals)) hp (orc, [])).map (seen keep') = some (x, vals', hp', st)) (hc : Hold st.2) (h2 : ∀ t', keep'.map t'.get = vals' → Post x t' hp') : Tri P N K c t hp Post := by
  refine Tri.of_keep hk hb ?_
  cases hq : exS P runs M N n c (mk (keep.zip vals)) hp (orc, []) with
  | none => rw [hq] at h; cases h
  | some q =>
    obtain ⟨y, t', hp2, st2⟩ := q
    rw [hq] at h
    cases h
    exact Tri.run hrun hN ((exS_ok hr hN n _ _ _ _ _ _ _ _ hq).2 hc) (h2 t' rfl)
end
end Go.Vm
namespace Go.Vm
open Go
/-- runs with the contracts ahead of the bodies -/
def orV (P : Program) (M : Mode) (n : Nat) : Run := fun f args hp => match M.ov f with | some F => F args hp | none => runV P M n f args hp
def orS (P : Program) (M : Mode) (n : Nat) : RunT := fun f args hp st => match M.ov f with | some F => ovS F args hp st | none => runS P M n f args hp st
theorem orV_ok {P : Program} {M : Mode} (hov : ∀ f F, M.ov f = some F → ∀ args hp r hp', F args hp = some (r, hp') → FnOk P f args hp r hp') (n : Nat) : RunOk P (orV P M n) := by
  intro f args hp r hp' h
  unfold orV at h
  split at h
  · rename_i F hF; exact hov f F hF args hp r hp' h
  · exact runV_ok hov n f args hp r hp' h
theorem orS_ok {P : Program} {M : Mode} (n : Nat) : RunsOk (orV P M n) (orS P M n) := by
  intro f args hp st r hp' st' h
  unfold orS at h
  unfold orV
  split at h
  · rename_i F hF
    exact ovS_ok h
  · rename_i hF
    exact runS_ok n _ _ _ _ _ _ _ h
end Go.Vm
