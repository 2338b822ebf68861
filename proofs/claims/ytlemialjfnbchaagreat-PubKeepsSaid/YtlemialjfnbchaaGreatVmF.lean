/- Functions in the virtual memory. -/
import Derived.Test.YtlemialjfnbchaaGreatVmY
import Derived.RangeFuncRecord

namespace Go.Vm
open Go

section
variable {P : Program} {W0 : World} {O S0 : Nat → Prop} {m0 : EM} {hp hp' : List Blk} {m : EM} {S : Nat → Prop} {t : Tr} {a : Act} {w : World} {N : Nat}

theorem frameOf_get : ∀ (args : List AV) (k : Nat) (t : Tr) (i : Nat), k + args.length < 16383 → (frameOf k args t).get i = if k ≤ i ∧ i < k + args.length then args.getD (i - k) .top else t.get i
  | [], k, t, i, h => by
    rw [if_neg (by simp only [List.length_nil]; omega)]; rfl
  | v :: args, k, t, i, h => by
    simp only [List.length_cons] at h
    unfold frameOf
    rw [frameOf_get args (k + 1) _ i (by omega), Tr.get_set t k i v (by omega)]
    simp only [List.length_cons]
    by_cases c1 : k = i
    · subst c1
      rw [if_neg (by omega), if_pos rfl, if_pos (by omega), Nat.sub_self]; rfl
    · rw [if_neg c1]
      by_cases c2 : k + 1 ≤ i ∧ i < k + 1 + args.length
      · rw [if_pos c2, if_pos (by omega)]
        obtain ⟨r, hr⟩ : ∃ r, i - k = r + 1 := ⟨i - k - 1, by omega⟩
        have hr2 : i - (k + 1) = r := by omega
        rw [hr, hr2]; rfl
      · rw [if_neg c2, if_neg (by omega)]
theorem start_fr {args : List AV} {args' : List Value} (h : RL w S m args args') (ha : args.length < 16383) (n : Nat) : FrR w S m (frameOf 0 args .lf) { tmps := args'.toArray ++ Array.replicate n undef, defers := [] } := by
  intro i
  rw [frameOf_get args 0 .lf i (by omega)]
  by_cases c : 0 ≤ i ∧ i < 0 + args.length
  · rw [if_pos c]
    have h1 : i < args.length := by omega
    have h2 : i < args'.length := h.1 ▸ h1
    have e1 : args.getD (i - 0) .top = args[i] := by simp [List.getD, h1]
    have e2 : (Act.eval { tmps := args'.toArray ++ Array.replicate n undef, defers := [] } (.tmp i)) = args'[i] := by
      simp only [Act.eval, Array.getD_eq_getD_getElem?]
      rw [Array.getElem?_append_left (by simpa using h2)]
      simp [h2]
    rw [e1, e2]
    exact h.2 i h1 h2
  · rw [if_neg c]; exact .top _ _

theorem resV_ok (h : HS W0 O S0 m0 hp m S w) (hf : FrR w S m t a) : ∀ {l : List ResultVar} {vs : List AV}, resV P t hp l = some vs →
    ∃ us, (l.mapM (fun (r : ResultVar) => (match r with | .tmp i => pure (a.tmps.getD i undef) | .cell i ty => do loadVar ty (← asAddr (a.tmps.getD i undef)) : Sem Value))).run P w = .ok us w ∧ RL w S m vs us
  | [], vs, hr => by
    simp only [resV] at hr
    cases hr
    exact ⟨[], by simp, .nil⟩
  | .tmp i :: l, vs, hr => by
    simp only [resV] at hr
    split at hr
    · rename_i l' hl
      cases hr
      obtain ⟨us, h1, h2⟩ := resV_ok h hf hl
      refine ⟨a.eval (.tmp i) :: us, ?_, .cons (hf i) h2⟩
      simp only [List.mapM_cons, Sem.run_bind, Sem.run_pure, Result.andThen_ok, h1]
      rfl
    · cases hr
  | .cell i ty :: l, vs, hr => by
    simp only [resV] at hr
    split at hr
    · rename_i xs k l' hc hl
      split at hr
      · rename_i v hv
        cases hr
        obtain ⟨us, h1, h2⟩ := resV_ok h hf hl
        obtain ⟨b, of, cs, hu, hrg, hrl⟩ := cellsAt_ok h hc (hf i)
        obtain ⟨u, hrun, hru⟩ := ld_ok (P := P) hrg hrl hv
        refine ⟨u :: us, ?_, .cons hru h2⟩
        have hu' : (asAddr (a.tmps.getD i undef)).run P w = .ok ⟨b, of + k, none⟩ w := by
          have : a.tmps.getD i undef = .pointer (some ⟨b, of + k, none⟩) := hu
          rw [this]; rfl
        simp only [List.mapM_cons, Sem.run_bind, Sem.run_pure, Result.andThen_ok, h1, hu', hrun]
      · cases hr
    · cases hr

theorem reach_pre (hp : List Blk) : ∀ (n : Nat) (todo acc : List Nat), ∃ l, reach hp n todo acc = acc ++ l
  | 0, todo, acc => ⟨[], by simp [reach]⟩
  | n + 1, [], acc => ⟨[], by simp [reach]⟩
  | n + 1, i :: todo, acc => by
    unfold reach
    cases memB i acc with
    | true => rw [cond_true]; exact reach_pre hp n todo acc
    | false =>
      rw [cond_false]
      split
      · obtain ⟨l, hl⟩ := reach_pre hp n (cond (by rename_i b _; exact b.row) todo (by rename_i b _; exact (b.cells.flatMap ids ++ todo))) (acc ++ [i])
        exact ⟨i :: l, by rw [hl]; simp⟩
      · exact reach_pre hp n todo acc

/-- a function's end behind rounds: their blocks are shut -/
theorem leave_marks {fn : Func} {R : Ending → World → Prop} {a1 : Act} {n : Nat} (hpost : ∀ w1 : World, HS W0 O S0 m0 hp m S w1 → FrR w1 S m t a1 → ∃ v, (results fn a1.tmps).run P w1 = .ok v w1 ∧ R (.returned v) w1) :
    ∀ (ds : List Deferred) (w : World), HS W0 O S0 m0 hp m S w → FrR w S m t a1 → Marks W0 S w ds → LeavesInM Fence.wide n P fn a1.tmps R ds .returning w
  | [], w, h, hf, _ => hpost w h hf
  | d :: ds, w, h, hf, hm => by
    obtain ⟨r, h1, h2, h3, h4⟩ := hm.2 d (by simp)
    refine ⟨by simp, .inl ⟨r, w.putObj r (.deferred none), h1, run_takeDeferred h4, ?_⟩⟩
    have e : w.putObj r (.deferred none) = putO w r (.deferred none) := rfl
    rw [e]
    refine leave_marks hpost ds _ (h.putO h4 rfl rfl h3) (fun i => putO_R h4 rfl rfl (hf i)) ?_
    refine ⟨(List.pairwise_cons.1 hm.1).2, fun d' hd' => ?_⟩
    obtain ⟨r', k1, k2, k3, k4⟩ := hm.2 d' (by simp [hd'])
    have hne : r' ≠ r := by
      rintro rfl
      exact (List.pairwise_cons.1 hm.1).1 d' hd' (by rw [h1, k1])
    exact ⟨r', k1, k2, k3, by rw [putO_other hne]; exact k4⟩

theorem runV_ok {M : Mode} (hov : ∀ f F, M.ov f = some F → ∀ args hp r hp', F args hp = some (r, hp') → FnOk P f args hp r hp') : ∀ n, RunOk P (runV P M n)
  | 0 => fun f args hp r hp' h => by simp [runV] at h
  | n + 1 => fun f args hp r hp' h => by
    have ih := runV_ok hov n
    have hrun : RunOk P (fun f args hp => match M.ov f with | some F => F args hp | none => runV P M n f args hp) := by
      intro f args hp r hp' h
      simp only at h
      split at h
      · rename_i F hF; exact hov f F hF args hp r hp' h
      · exact ih f args hp r hp' h
    unfold runV at h
    split at h
    · cases h
    · rename_i fn hfn
      split at h
      · cases h
      · rename_i c hbody
        cases hN : Nat.blt (Nat.max args.length fn.ntmps) 16383 with
        | false => rw [hN] at h; cases h
        | true =>
          rw [hN] at h
          simp only [Bool.not_true, cond_false] at h
          have hN' : Nat.max args.length fn.ntmps < 16383 := Nat.le_of_ble_eq_true hN
          intro m S w args' hs hargs
          have fin : ∀ (x : Ex) (t : Tr) (hp1 : List Blk), (x = .nrm ∨ x = .ret) → exV P (fun f args hp => match M.ov f with | some F => F args hp | none => runV P M n f args hp) M (Nat.max args.length fn.ntmps) n c (frameOf 0 args .lf) hp = some (x, t, hp1) →
              (match resV P t hp1 fn.results.toList with | some [v] => gcV hp.length v hp1 | some vs => gcV hp.length (.tup vs) hp1 | none => none) = some (r, hp') → Calls P f args'.toArray w (After w (own0 hp m) S m hp' m S w r) := by
            intro x t hp1 hx hex hres
            refine callsIn_wide.1 (callsIn_of_wp_marks (F := Fence.wide) (n := 0) hfn hbody trivial (wpIn_wide.2 ?_) rfl)
            have hlen := hargs.1
            have hsim : Sim w (own0 hp m) S m (Nat.max args.length fn.ntmps) (frameOf 0 args .lf) hp { tmps := args'.toArray ++ Array.replicate (fn.ntmps - args'.toArray.size) undef, defers := [] } w := by
              refine ⟨m, S, hs, Ext.refl _, start_fr hargs (Nat.lt_of_le_of_lt (Nat.le_max_left _ _) hN') _, ?_, Marks.nil _ _ _⟩
              simp only [Array.size_append, List.size_toArray, Array.size_replicate]
              rw [hlen]
              show args'.length + (fn.ntmps - args'.length) = max args'.length fn.ntmps
              omega
            refine wp_mono ((exV_both hrun hN' n).1 c _ hp x t hp1 _ w hex hsim) ?_
            rintro e a1 w1 ⟨rfl, m1, S1, h1, h2, h3, h4, h5⟩
            have hpost : ∀ w1 : World, HS w (own0 hp m) S m hp1 m1 S1 w1 → FrR w1 S1 m1 t a1 → ∃ v, (results fn a1.tmps).run P w1 = .ok v w1 ∧ After w (own0 hp m) S m hp' m S w r (.returned v) w1 := by
              intro w1 h1 h3
              have after : ∀ (v : AV) (u : Value), gcV hp.length v hp1 = some (r, hp') → R w1 S1 m1 v u → After w (own0 hp m) S m hp' m S w r (.returned u) w1 := by
                intro v u hgc hv
                unfold gcV at hgc
                simp only at hgc
                split at hgc
                · rename_i sub hsub
                  cases hgc
                  have hlen1 : hp.length ≤ hp1.length := by
                    rcases Nat.lt_or_ge hp1.length hp.length with hlt | hge
                    · exfalso
                      obtain ⟨e, he⟩ := Option.isSome_iff_exists.1 ((hs.dom hp1.length).1 hlt)
                      obtain ⟨e', he', _⟩ := h2 hp1.length e he
                      have := (h1.dom hp1.length).2 (by rw [he']; rfl)
                      omega
                    · exact hge
                  obtain ⟨q1, q2⟩ := reach_ok hp1 1000 (ids v ++ (hp1.take hp.length).flatMap fun b => cond b.row [] (b.cells.flatMap ids)) (List.range hp.length) List.nodup_range (fun i hi => by simp at hi; omega)
                  obtain ⟨l, hl⟩ := reach_pre hp1 1000 (ids v ++ (hp1.take hp.length).flatMap fun b => cond b.row [] (b.cells.flatMap ids)) (List.range hp.length)
                  generalize hjs : reach hp1 1000 (ids v ++ (hp1.take hp.length).flatMap fun b => cond b.row [] (b.cells.flatMap ids)) (List.range hp.length) = js at *
                  obtain ⟨g1, g2⟩ := h1.gc q1 q2 hsub
                  refine ⟨u, _, S1, rfl, g1, ?_, h1.smono, ?_, ren_ok g2 v u hv⟩
                  · intro i e he
                    have hlt := (hs.dom i).2 (by rw [he]; rfl)
                    obtain ⟨e', he', hr⟩ := h2 i e he
                    refine ⟨e', ?_, hr⟩
                    have : js[i]? = some i := by rw [hl, List.getElem?_append_left (by simpa using hlt)]; simp [hlt]
                    simp only [this]
                    exact he'
                  · intro b hb
                    refine h1.frame b (hs.sok b hb) ?_
                    rintro ⟨i, blk, e, pl, k1, k2, k3, k4, k5⟩
                    exact ((hs.ro i blk e pl k1 k3 k4).2 k2).1 (k5 ▸ hb)
                · cases hgc
              have hrs : ∀ vs, resV P t hp1 fn.results.toList = some vs → ∃ us : List Value, (fn.results.mapM (fun (r : ResultVar) => (match r with | .tmp i => pure (a1.tmps.getD i undef) | .cell i ty => do loadVar ty (← asAddr (a1.tmps.getD i undef)) : Sem Value))).run P w1 = .ok us.toArray w1 ∧ RL w1 S1 m1 vs us := by
                intro vs hvs
                obtain ⟨us, k1, k2⟩ := resV_ok h1 h3 hvs
                refine ⟨us, ?_, k2⟩
                rw [Array.mapM_eq_mapM_toList]
                simp only [Sem.run_map, k1, Result.andThen_ok]
              cases hvs : resV P t hp1 fn.results.toList with
              | none => rw [hvs] at hres; cases hres
              | some vs =>
                rw [hvs] at hres
                obtain ⟨us, k1, k2⟩ := hrs vs hvs
                have hrun2 : (results fn a1.tmps).run P w1 = .ok (if h : us.toArray.size = 1 then us.toArray[0] else .tuple us.toArray) w1 := by
                  unfold results
                  rw [Sem.run_bind]
                  exact congrArg (fun r => Result.andThen r (fun (a : Array Value) w' => Sem.run P (pure (if h : a.size = 1 then a[0] else Value.tuple a)) w')) k1
                refine ⟨_, hrun2, ?_⟩
                rcases k2.cases with ⟨rfl, rfl⟩ | ⟨x1, xs, u1, us', rfl, rfl, k3, k4⟩
                · exact after (.tup []) _ hres (by simpa using R.tup m1 [] [] rfl (fun j h => absurd h (Nat.not_lt_zero _)))
                · rcases k4.cases with ⟨rfl, rfl⟩ | ⟨x2, xs2, u2, us2, rfl, rfl, k5, k6⟩
                  · exact after x1 _ hres (by simpa using k3)
                  · refine after (.tup (x1 :: x2 :: xs2)) _ hres ?_
                    have k7 := RL.cons k3 (RL.cons k5 k6)
                    have := R.tup m1 _ _ k7.1 k7.2
                    rw [dif_neg (by simp)]
                    exact this
            rcases hx with rfl | rfl
            · exact leave_marks hpost a1.defers w1 h1 h3 h5
            · exact leave_marks hpost a1.defers w1 h1 h3 h5
          split at h
          · rename_i t hp1 hex; exact fin .nrm t hp1 (.inl rfl) hex h
          · rename_i t hp1 hex; exact fin .ret t hp1 (.inr rfl) hex h
          · cases h
/-- code from a frame and a memory, whatever stands for them: it is left so and so -/
def Tri (P : Program) (N K : Nat) (c : Code) (t : Tr) (hp : List Blk) (Post : Ex → Tr → List Blk → Prop) : Prop :=
  ∀ (W0 : World) (O S0 : Nat → Prop) (m0 : EM) (a : Act) (w : World), (∀ i, K ≤ i → m0 i = none) → Sim W0 O S0 m0 N t hp a w → c.wp P (fun e a' w' => ∃ x t' hp', e = exOf x ∧ Post x t' hp' ∧ Sim W0 O S0 m0 N t' hp' a' w') a w

/-- a function whose code is told by a triple -/
theorem fn_of_tri {f : FuncId} {fn : Func} {c : Code} {args : List AV} {hp hp' : List Blk} {r : AV} (hfn : P.funcs[f]? = some fn) (hbody : fn.body = some c) (hN : Nat.max args.length fn.ntmps < 16383)
    (h : Tri P (Nat.max args.length fn.ntmps) hp.length c (frameOf 0 args .lf) hp fun x t hp1 => (x = .nrm ∨ x = .ret) ∧ (match resV P t hp1 fn.results.toList with | some [v] => gcV hp.length v hp1 | some vs => gcV hp.length (.tup vs) hp1 | none => none) = some (r, hp')) :
    FnOk P f args hp r hp' := by
  intro m S w args' hs hargs
  refine callsIn_wide.1 (callsIn_of_wp_marks (F := Fence.wide) (n := 0) hfn hbody trivial (wpIn_wide.2 ?_) rfl)
  have hlen := hargs.1
  have hsim : Sim w (own0 hp m) S m (Nat.max args.length fn.ntmps) (frameOf 0 args .lf) hp { tmps := args'.toArray ++ Array.replicate (fn.ntmps - args'.toArray.size) undef, defers := [] } w := by
    refine ⟨m, S, hs, Ext.refl _, start_fr hargs (Nat.lt_of_le_of_lt (Nat.le_max_left _ _) hN) _, ?_, Marks.nil _ _ _⟩
    simp only [Array.size_append, List.size_toArray, Array.size_replicate]
    rw [hlen]
    show args'.length + (fn.ntmps - args'.length) = max args'.length fn.ntmps
    omega
  refine wp_mono (h w (own0 hp m) S m _ w (fun i hi => by
    cases he : m i with
    | none => rfl
    | some e => exact absurd ((hs.dom i).2 (by rw [he]; rfl)) (by omega)) hsim) ?_
  rintro e a1 w1 ⟨x, t, hp1, rfl, ⟨hx, hres⟩, m1, S1, h1, h2, h3, h4, h5⟩
  have hpost : ∀ w1 : World, HS w (own0 hp m) S m hp1 m1 S1 w1 → FrR w1 S1 m1 t a1 → ∃ v, (results fn a1.tmps).run P w1 = .ok v w1 ∧ After w (own0 hp m) S m hp' m S w r (.returned v) w1 := by
    intro w1 h1 h3
    have after : ∀ (v : AV) (u : Value), gcV hp.length v hp1 = some (r, hp') → R w1 S1 m1 v u → After w (own0 hp m) S m hp' m S w r (.returned u) w1 := by
      intro v u hgc hv
      unfold gcV at hgc
      simp only at hgc
      split at hgc
      · rename_i sub hsub
        cases hgc
        have hlen1 : hp.length ≤ hp1.length := by
          rcases Nat.lt_or_ge hp1.length hp.length with hlt | hge
          · exfalso
            obtain ⟨e, he⟩ := Option.isSome_iff_exists.1 ((hs.dom hp1.length).1 hlt)
            obtain ⟨e', he', _⟩ := h2 hp1.length e he
            have := (h1.dom hp1.length).2 (by rw [he']; rfl)
            omega
          · exact hge
        obtain ⟨q1, q2⟩ := reach_ok hp1 1000 (ids v ++ (hp1.take hp.length).flatMap fun b => cond b.row [] (b.cells.flatMap ids)) (List.range hp.length) List.nodup_range (fun i hi => by simp at hi; omega)
        obtain ⟨l, hl⟩ := reach_pre hp1 1000 (ids v ++ (hp1.take hp.length).flatMap fun b => cond b.row [] (b.cells.flatMap ids)) (List.range hp.length)
        generalize hjs : reach hp1 1000 (ids v ++ (hp1.take hp.length).flatMap fun b => cond b.row [] (b.cells.flatMap ids)) (List.range hp.length) = js at *
        obtain ⟨g1, g2⟩ := h1.gc q1 q2 hsub
        refine ⟨u, _, S1, rfl, g1, ?_, h1.smono, ?_, ren_ok g2 v u hv⟩
        · intro i e he
          have hlt := (hs.dom i).2 (by rw [he]; rfl)
          obtain ⟨e', he', hr⟩ := h2 i e he
          refine ⟨e', ?_, hr⟩
          have : js[i]? = some i := by rw [hl, List.getElem?_append_left (by simpa using hlt)]; simp [hlt]
          simp only [this]
          exact he'
        · intro b hb
          refine h1.frame b (hs.sok b hb) ?_
          rintro ⟨i, blk, e, pl, k1, k2, k3, k4, k5⟩
          exact ((hs.ro i blk e pl k1 k3 k4).2 k2).1 (k5 ▸ hb)
      · cases hgc
    have hrs : ∀ vs, resV P t hp1 fn.results.toList = some vs → ∃ us : List Value, (fn.results.mapM (fun (r : ResultVar) => (match r with | .tmp i => pure (a1.tmps.getD i undef) | .cell i ty => do loadVar ty (← asAddr (a1.tmps.getD i undef)) : Sem Value))).run P w1 = .ok us.toArray w1 ∧ RL w1 S1 m1 vs us := by
      intro vs hvs
      obtain ⟨us, k1, k2⟩ := resV_ok h1 h3 hvs
      refine ⟨us, ?_, k2⟩
      rw [Array.mapM_eq_mapM_toList]
      simp only [Sem.run_map, k1, Result.andThen_ok]
    cases hvs : resV P t hp1 fn.results.toList with
    | none => rw [hvs] at hres; cases hres
    | some vs =>
      rw [hvs] at hres
      obtain ⟨us, k1, k2⟩ := hrs vs hvs
      have hrun2 : (results fn a1.tmps).run P w1 = .ok (if h : us.toArray.size = 1 then us.toArray[0] else .tuple us.toArray) w1 := by
        unfold results
        rw [Sem.run_bind]
        exact congrArg (fun r => Result.andThen r (fun (a : Array Value) w' => Sem.run P (pure (if h : a.size = 1 then a[0] else Value.tuple a)) w')) k1
      refine ⟨_, hrun2, ?_⟩
      rcases k2.cases with ⟨rfl, rfl⟩ | ⟨x1, xs, u1, us', rfl, rfl, k3, k4⟩
      · exact after (.tup []) _ hres (by simpa using R.tup m1 [] [] rfl (fun j h => absurd h (Nat.not_lt_zero _)))
      · rcases k4.cases with ⟨rfl, rfl⟩ | ⟨x2, xs2, u2, us2, rfl, rfl, k5, k6⟩
        · exact after x1 _ hres (by simpa using k3)
        · refine after (.tup (x1 :: x2 :: xs2)) _ hres ?_
          have k7 := RL.cons k3 (RL.cons k5 k6)
          have := R.tup m1 _ _ k7.1 k7.2
          rw [dif_neg (by simp)]
          exact this
  rcases hx with rfl | rfl
  · exact leave_marks hpost a1.defers w1 h1 h3 h5
  · exact leave_marks hpost a1.defers w1 h1 h3 h5
end
end Go.Vm
