/- Ranges over functions in the virtual memory: sound. -/
import Derived.Test.YtlemialjfnbchaaGreatVmX
import Derived.RangeFuncRecord
import Derived.OrdersIn

namespace Go.Vm
open Go

/-- how code is left -/
def exOf : Ex → Exit
  | .nrm => .normal
  | .exit id => .exit id
  | .goto l => .goto l
  | .ret => .ret
def wideAt (ro : Option Nat) : Fence := { Fence.wide with round := ro }
theorem callsIn_at {P : Program} {ro : Option Nat} {n : Nat} {f : FuncId} {args : Array Value} {w : World} {R : Ending → World → Prop} (h : Calls P f args w R) : CallsIn (wideAt ro) n P f args w R :=
  (callsIn_wide (n := n)).2 h

/-- from one state of the memory to a later one; block l, if any, may have turned -/
def Nx (l : Option Nat) (m : EM) (S : Nat → Prop) (w : World) (m' : EM) (S' : Nat → Prop) (w' : World) : Prop :=
  Ext m m' ∧ (∀ b, S b → S' b) ∧ ∀ b, S b → some b ≠ l → w'.heap[b]? = w.heap[b]?
section
variable {l : Option Nat} {m m' m'' : EM} {S S' S'' : Nat → Prop} {w w' w'' : World}
theorem Nx.refl : Nx l m S w m S w := ⟨Ext.refl _, fun _ h => h, fun _ _ _ => rfl⟩
theorem Nx.trans (h : Nx l m S w m' S' w') (k : Nx l m' S' w' m'' S'' w'') : Nx l m S w m'' S'' w'' :=
  ⟨h.1.trans k.1, fun b hb => k.2.1 b (h.2.1 b hb), fun b hb hne => (k.2.2 b (h.2.1 b hb) hne).trans (h.2.2 b hb hne)⟩
theorem Nx.weak {r : Nat} (h : Nx none m S w m' S' w') : Nx (some r) m S w m' S' w' := ⟨h.1, h.2.1, fun b hb _ => h.2.2 b hb (by simp)⟩
theorem Nx.keeps (h : Nx none m S w m' S' w') : Keeps S w w' := fun b hb => h.2.2 b hb (by simp)
theorem Nx.of (h1 : Ext m m') (h2 : ∀ b, S b → S' b) (h3 : Keeps S w w') : Nx none m S w m' S' w' := ⟨h1, h2, fun b hb _ => h3 b hb⟩
theorem Nx.R {x : AV} {v : Value} (h : Nx none m S w m' S' w') (k : R w S m x v) : R w' S' m' x v := k.mono h.keeps h.2.1 h.1
theorem cell_loop {r : Nat} {o : Loop} (h : w.heap[r]? = some (.loop o)) (i : Nat) : w.cell? ⟨r, i, none⟩ = none := by simp only [World.cell?, h]
theorem Nx.RL {r : Nat} {o o' : Loop} {x : AV} {v : Value} (h : Nx (some r) m S w m' S' w') (hl : w.heap[r]? = some (.loop o)) (hl' : w'.heap[r]? = some (.loop o')) (k : Vm.R w S m x v) : Vm.R w' S' m' x v := by
  refine k.monoC (fun b i hb => ?_) h.2.1 h.1
  by_cases e : b = r
  · subst e; rw [cell_loop hl, cell_loop hl']
  · simp only [World.cell?, h.2.2 b hb (by simpa using e)]
end

section
variable {P : Program} {W0 : World} {O S0 : Nat → Prop} {m0 : EM} {hp hp' : List Blk} {m : EM} {S : Nat → Prop} {t t' : Tr} {a : Act} {w : World} {N : Nat} {run : FuncId → List AV → List Blk → Option (AV × List Blk)} {M : Mode}

theorem no_defer {o : Oper} (h : noDefer o.op = true) : ∀ c, o.op ≠ .defer c := by
  intro c e; rw [e] at h; cases h
/-- one operation, in whatever round -/
theorem opN {ro : Option Nat} {nn : Nat} {ops : Array Oper} {o : Oper} {i : Nat} {Q : Exit → Act → World → Prop} {K : Act → World → Prop} (hrun : RunOk P run) (hi : ops[i]? = some o) (hnd : noDefer o.op = true) (hd : ∀ d, o.dst = some d → d < N) (hb : N < 16383)
    (h : opV P run M ops o t hp = some (t', hp')) (h1 : HS W0 O S0 m0 hp m S w) (h3 : FrR w S m t a) (h4 : a.tmps.size = N)
    (hK : ∀ u w' m' S', HS W0 O S0 m0 hp' m' S' w' → Nx none m S w m' S' w' → FrR w' S' m' t' (a.put o.dst u) → K (a.put o.dst u) w') : wpOpIn (wideAt ro) nn P ops Q i K a w := by
  have fin : ∀ {m' : EM} {S' : Nat → Prop} {w' : World} {v : AV} {u : Value}, HS W0 O S0 m0 hp' m' S' w' → Nx none m S w m' S' w' → R w' S' m' v u → t' = putV t o.dst v → K (a.put o.dst u) w' := by
    intro m' S' w' v u k1 k2 k4 k5
    refine hK _ _ m' S' k1 k2 ?_
    rw [k5]
    exact FrR.put (fun j => k2.R (h3 j)) k4 _ (fun i hi => by rw [h4]; exact hd i hi) (by omega)
  unfold opV at h
  unfold wpOpIn
  rw [hi]
  simp only
  split at h
  · cases h
  · rename_i hg
    cases h
    rw [guard_ok h3 hg]
    simp only [Bool.false_eq_true, if_false]
    exact ⟨fun _ _ => trivial, fin h1 Nx.refl (.p _ _) rfl⟩
  · rename_i hg
    rw [guard_ok h3 hg]
    simp only [if_true]
    unfold Oper.wpIn
    refine ⟨fun _ _ => trivial, ?_⟩
    rw [Oper.semAt_eq _ _ _ (no_defer hnd)]
    split at h
    · cases h
    · rename_i v hp1 hv
      cases h
      obtain ⟨nx, w', m', S', k1, k2, k3, k4, k5, k6⟩ := (vop_ok h1 h3 hv).1 _ _ rfl
      rw [k1]
      cases nx with
      | value u => exact fin k3 (Nx.of k4 k5 k6) k2 rfl
      | skip =>
        have : v = .p undef := k2
        subst this
        exact fin k3 (Nx.of k4 k5 k6) (.p _ _) rfl
      | _ => exact absurd k2 (by simp [Gives])
    · rename_i f args hv
      obtain ⟨args', k1, k2⟩ := (vop_ok h1 h3 hv).2 _ _ rfl
      split at h
      · cases h
      · rename_i v hp1 hc
        cases h
        rw [k1]
        refine ⟨fun h => (by cases h), callsIn_at ((callV_ok hrun h1 k2 hc).mono ?_)⟩
        rintro e w' ⟨u, m', S', rfl, q1, q2, q3, q4, q5⟩
        exact fin q1 (Nx.of q2 q3 q4) q5 rfl

theorem opsN {ro : Option Nat} {nn : Nat} {ops : Array Oper} {Q : Exit → Act → World → Prop} (hrun : RunOk P run) (hb : N < 16383) : ∀ (l : List Oper) (k : Nat) (t : Tr) (hp : List Blk) (m : EM) (S : Nat → Prop) (a : Act) (w : World), (∀ o ∈ l, noDefer o.op = true ∧ ∀ d, o.dst = some d → d < N) → (∀ j, l[j]? = ops[k + j]?) →
    opsV P run M ops l t hp = some (t', hp') → HS W0 O S0 m0 hp m S w → FrR w S m t a → a.tmps.size = N →
    (∀ a' w' m' S', HS W0 O S0 m0 hp' m' S' w' → Nx none m S w m' S' w' → FrR w' S' m' t' a' → a'.tmps.size = N → Q .normal a' w') → wpOpsIn (wideAt ro) nn P ops Q (List.range' k l.length) a w
  | [], k, t, hp, m, S, a, w, hn, hl, h, h1, h3, h4, hQ => by
    simp only [opsV] at h
    cases h
    exact hQ a w m S h1 Nx.refl h3 h4
  | o :: l, k, t, hp, m, S, a, w, hn, hl, h, h1, h3, h4, hQ => by
    simp only [opsV] at h
    split at h
    · rename_i t1 hp1 ho
      have hk : ops[k]? = some o := by have := hl 0; simpa using this.symm
      rw [List.length_cons, List.range'_succ, wpOpsIn_cons]
      refine opN hrun hk (hn o (by simp)).1 (hn o (by simp)).2 hb ho h1 h3 h4 (fun u w' m' S' g1 g2 g3 => ?_)
      exact opsN hrun hb l (k + 1) t1 hp1 m' S' _ w' (fun o ho => hn o (by simp [ho])) (fun j => by have := hl (j + 1); simp only [List.getElem?_cons_succ] at this; rw [this]; congr 1; omega) h g1 g3 (by rw [put_size]; exact h4)
        (fun a2 w2 m2 S2 q1 q2 q3 q4 => hQ a2 w2 m2 S2 q1 (g2.trans q2) q3 q4)
    · cases h

theorem reg_checks {ops : Array Oper} {draw : Bool} (h : (!draw && dstsOk N ops && ops.toList.all fun o => noDefer o.op) = true) : draw = false ∧ ∀ o ∈ ops.toList, noDefer o.op = true ∧ ∀ d, o.dst = some d → d < N := by
  simp only [Bool.and_eq_true, Bool.not_eq_true'] at h
  obtain ⟨⟨h1, h2⟩, h3⟩ := h
  refine ⟨h1, fun o ho => ⟨List.all_eq_true.1 h3 o ho, fun d hd => ?_⟩⟩
  have := List.all_eq_true.1 h2 o ho
  rw [hd] at this
  exact Nat.le_of_ble_eq_true this

/-- code that is left at its end, in whatever round -/
theorem exB_ok {ro : Option Nat} {nn : Nat} (hrun : RunOk P run) (hb : N < 16383) : ∀ (n : Nat) (c : Code) (t : Tr) (hp : List Blk) (x : Ex) (t' : Tr) (hp' : List Blk) (m : EM) (S : Nat → Prop) (a : Act) (w : World), exB P run M N n c t hp = some (x, t', hp') → HS W0 O S0 m0 hp m S w → FrR w S m t a → a.tmps.size = N →
    c.wpIn (wideAt ro) nn P (fun e a' w' => e = exOf x ∧ ∃ m' S', HS W0 O S0 m0 hp' m' S' w' ∧ Nx none m S w m' S' w' ∧ FrR w' S' m' t' a' ∧ a'.tmps.size = N) a w
  | 0, c, t, hp, x, t', hp', m, S, a, w, h, h1, h3, h4 => by simp [exB] at h
  | n + 1, c, t, hp, x, t', hp', m, S, a, w, h, h1, h3, h4 => by
    have ih := exB_ok (ro := ro) (nn := nn) hrun hb n
    cases c with
    | skip => simp only [exB] at h; cases h; exact wpIn_skip ⟨rfl, m, S, h1, Nx.refl, h3, h4⟩
    | region id ops draw =>
      simp only [exB] at h
      cases hc : (!draw && dstsOk N ops && ops.toList.all fun o => noDefer o.op) with
      | false => rw [hc] at h; cases h
      | true =>
        rw [hc, cond_true] at h
        obtain ⟨rfl, hn⟩ := reg_checks hc
        split at h
        · rename_i t1 hp1 e1
          cases h
          refine wpIn_region ?_
          have := opsN (ro := ro) (nn := nn) (Q := fun e a' w' => e = exOf .nrm ∧ ∃ m' S', HS W0 O S0 m0 hp' m' S' w' ∧ Nx none m S w m' S' w' ∧ FrR w' S' m' t' a' ∧ a'.tmps.size = N) hrun hb ops.toList 0 t hp m S a w hn (fun j => by simp) e1 h1 h3 h4 (fun a' w' m' S' q1 q2 q3 q4 => ⟨rfl, m', S', q1, q2, q3, q4⟩)
          rwa [Array.length_toList, ← List.range_eq_range'] at this
        · cases h
    | seq c1 c2 =>
      simp only [exB] at h
      refine wpIn_seq ?_
      split at h
      · rename_i t1 hp1 e1
        refine wpIn_mono (ih _ _ _ _ _ _ _ _ _ _ e1 h1 h3 h4) ?_
        rintro e a1 w1 ⟨rfl, m1, S1, g1, g2, g3, g4⟩
        refine wpIn_mono (ih _ _ _ _ _ _ _ _ _ _ h g1 g3 g4) ?_
        rintro e a2 w2 ⟨rfl, m2, S2, q1, q2, q3, q4⟩
        exact ⟨rfl, m2, S2, q1, g2.trans q2, q3, q4⟩
      · rename_i r hne
        refine wpIn_mono (ih _ _ _ _ _ _ _ _ _ _ h h1 h3 h4) ?_
        rintro e a1 w1 ⟨rfl, q⟩
        cases x with
        | nrm => exact absurd h (hne t' hp')
        | exit id => exact ⟨rfl, q⟩
        | goto l => exact ⟨rfl, q⟩
        | ret => exact ⟨rfl, q⟩
    | block id c1 =>
      simp only [exB] at h
      refine wpIn_block ?_
      split at h
      · rename_i id' t1 hp1 e1
        refine wpIn_mono (ih _ _ _ _ _ _ _ _ _ _ e1 h1 h3 h4) ?_
        rintro e a1 w1 ⟨rfl, q⟩
        cases hid : Nat.beq id' id with
        | true =>
          rw [hid, cond_true] at h
          cases h
          have := Nat.eq_of_beq_eq_true hid
          simp only [exOf, Exit.inBlock, if_pos this]
          exact ⟨trivial, q⟩
        | false =>
          rw [hid, cond_false] at h
          cases h
          have : ¬ id' = id := fun e => by subst e; rw [Nat.beq_refl] at hid; cases hid
          simp only [exOf, Exit.inBlock, if_neg this]
          exact ⟨trivial, q⟩
      · rename_i r hne
        refine wpIn_mono (ih _ _ _ _ _ _ _ _ _ _ h h1 h3 h4) ?_
        rintro e a1 w1 ⟨rfl, q⟩
        cases x with
        | exit id' => exact absurd h (hne id' t' hp')
        | nrm => exact ⟨rfl, q⟩
        | goto l => exact ⟨rfl, q⟩
        | ret => exact ⟨rfl, q⟩
    | cond y c1 c2 =>
      simp only [exB] at h
      split at h
      · rename_i v hv
        have he : a.eval y = .bool v := by
          have := ev_ok h3 y
          rw [hv] at this
          exact isP_ok (x := .p (.bool v)) rfl this
        cases v with
        | true => exact wpIn_cond_true he (ih _ _ _ _ _ _ _ _ _ _ h h1 h3 h4)
        | false => exact wpIn_cond_false he (ih _ _ _ _ _ _ _ _ _ _ h h1 h3 h4)
      · cases h
    | label l => simp [exB] at h
    | exit id => simp only [exB] at h; cases h; exact wpIn_exit ⟨rfl, m, S, h1, Nx.refl, h3, h4⟩
    | goto l => simp [exB] at h
    | loop l => simp [exB] at h
    | scope l => simp [exB] at h
    | ret => simp only [exB] at h; cases h; exact wpIn_ret ⟨rfl, m, S, h1, Nx.refl, h3, h4⟩
    | rangeFunc f ps c1 c2 => simp [exB] at h
    | refuse why => simp [exB] at h

theorem setP_ok : ∀ (l : List Tmp) (xs : List AV) (us : List Value) (t t1 : Tr) (tm : Array Value), setP t l xs = some t1 → RL w S m xs us → (∀ i ∈ l, i < tm.size) → tm.size < 16383 → (∀ i, R w S m (t.get i) (tm.getD i undef)) →
    us.length = l.length ∧ ((l.zip us).foldl (fun tmps (p : Tmp × Value) => tmps.setIfInBounds p.1 p.2) tm).size = tm.size ∧ ∀ i, R w S m (t1.get i) (((l.zip us).foldl (fun tmps (p : Tmp × Value) => tmps.setIfInBounds p.1 p.2) tm).getD i undef)
  | [], [], us, t, t1, tm, h, hr, hl, hz, hf => by
    simp only [setP] at h
    cases h
    have : us = [] := List.eq_nil_of_length_eq_zero (by have := hr.1; simpa using this.symm)
    subst this
    exact ⟨rfl, rfl, hf⟩
  | i :: l, x :: xs, us, t, t1, tm, h, hr, hl, hz, hf => by
    simp only [setP] at h
    rcases hr.cases with ⟨e, _⟩ | ⟨x1, xs1, u, us', e1, rfl, k3, k4⟩
    · cases e
    · cases e1
      have hi := hl i (by simp)
      obtain ⟨q0, q1, q2⟩ := setP_ok l xs us' (t.set i x) t1 (tm.setIfInBounds i u) h k4 (fun j hj => by rw [Array.size_setIfInBounds]; exact hl j (by simp [hj])) (by rw [Array.size_setIfInBounds]; exact hz) (fun j => by
        rw [Tr.get_set t i j x (Nat.lt_trans hi hz)]
        by_cases e : i = j
        · subst e
          rw [if_pos rfl]
          simp only [Array.getD_eq_getD_getElem?, Array.getElem?_setIfInBounds_self_of_lt hi, Option.getD_some]
          exact k3
        · rw [if_neg e]
          simp only [Array.getD_eq_getD_getElem?, Array.getElem?_setIfInBounds_ne e]
          have := hf j
          simpa [Array.getD_eq_getD_getElem?] using this)
      refine ⟨by simp [q0], ?_, ?_⟩
      · rw [List.zip_cons_cons, List.foldl_cons, q1, Array.size_setIfInBounds]
      · intro j
        rw [List.zip_cons_cons, List.foldl_cons]
        exact q2 j
  | [], _ :: _, us, t, t1, tm, h, hr, hl, hz, hf => by simp [setP] at h
  | _ :: _, [], us, t, t1, tm, h, hr, hl, hz, hf => by simp [setP] at h
end
end Go.Vm
namespace Go.Vm
open Go
/-- the record behind a round: left, or ready again -/
def recS (rec : Loop) (q : Bool) : Loop := cond q { rec with state := .done, pending := some .ret } rec
def recO (fn : FuncId) (tm : Array Value) (ps : Array Tmp) (assign body : Code) (D : Nat) : Loop := { state := .ready, pending := none, fn := fn, tmps := tm, params := ps, assign := assign, body := body, defers := D }
section
variable {P : Program} {W0 : World} {O S0 : Nat → Prop} {m0 : EM} {run : FuncId → List AV → List Blk → Option (AV × List Blk)} {M : Mode}

/-- one round, in the caller's frame -/
theorem roundE_ok {fn : FuncId} {D l N n nn : Nat} {tO : Tr} {ps : Array Tmp} {assign body : Code} (hrun : RunOk P run) (hb : N < 16383) {args : List AV} {hp hp3 : List Blk} {q : Bool} {us : List Value} {m : EM} {S : Nat → Prop} {w : World} {aO : Act}
    (h : roundE P run M N n tO ps assign body args hp = some (q, hp3)) (hsz : aO.tmps.size = N) (h1 : HS W0 O S0 m0 hp m S w) (hO : FrR w S m tO aO) (ha : RL w S m args us) (hl : w.heap[l]? = some (.loop (recO fn aO.tmps ps assign body D))) (hS : S l) (hW : W0.heap.size ≤ l) :
    us.length = ps.size ∧ RoundIn Fence.wide nn P l fn ((ps.zip us.toArray).foldl (fun tmps (t, a) => tmps.setIfInBounds t a) aO.tmps) assign body w
      (fun e w' => e = .returned (.bool (!q)) ∧ ∃ m' S', HS W0 O S0 m0 hp3 m' S' w' ∧ Nx (some l) m S w m' S' w' ∧ w'.heap[l]? = some (.loop (recS (recO fn aO.tmps ps assign body D) q))) := by
  unfold roundE at h
  cases hps : (ps.toList.all fun i => Nat.blt i N) with
  | false => rw [hps] at h; cases h
  | true =>
    rw [hps, cond_true] at h
    split at h
    · cases h
    · rename_i t1 e1
      split at h
      · rename_i t2 hp2 e2
        have fin : ∀ (x : Ex) (t3 : Tr), (x = .nrm ∧ q = false) ∨ (x = .ret ∧ q = true) → exB P run M N n body t2 hp2 = some (x, t3, hp3) →
            us.length = ps.size ∧ RoundIn Fence.wide nn P l fn ((ps.zip us.toArray).foldl (fun tmps (t, a) => tmps.setIfInBounds t a) aO.tmps) assign body w
              (fun e w' => e = .returned (.bool (!q)) ∧ ∃ m' S', HS W0 O S0 m0 hp3 m' S' w' ∧ Nx (some l) m S w m' S' w' ∧ w'.heap[l]? = some (.loop (recS (recO fn aO.tmps ps assign body D) q))) := by
          intro x t3 hxq e3
          have hlt : ∀ i ∈ ps.toList, i < aO.tmps.size := fun i hi => by rw [hsz]; exact Nat.le_of_ble_eq_true (List.all_eq_true.1 hps i hi)
          obtain ⟨q0, q1, q2⟩ := setP_ok (w := w) (S := S) (m := m) ps.toList args us tO t1 aO.tmps e1 ha hlt (by omega) hO
          have hfold : (ps.zip us.toArray).foldl (fun tmps (t, a) => tmps.setIfInBounds t a) aO.tmps = (ps.toList.zip us).foldl (fun tmps (p : Tmp × Value) => tmps.setIfInBounds p.1 p.2) aO.tmps := by
            rw [← Array.foldl_toList, Array.toList_zip]
          refine ⟨by simpa using q0, ?_⟩
          rw [hfold]
          generalize (ps.toList.zip us).foldl (fun tmps (p : Tmp × Value) => tmps.setIfInBounds p.1 p.2) aO.tmps = tm at q1 q2
          refine roundIn_of_wpIn (F := Fence.wide) trivial ?_
          refine wpIn_mono (exB_ok (ro := some l) (nn := nn) hrun hb n assign t1 hp _ t2 hp2 m S { tmps := tm, defers := [] } w e2 h1 q2 (by show tm.size = N; omega)) ?_
          rintro e a1 w1 ⟨rfl, m1, S1, g1, g2, g3, g4⟩
          have hl1 : w1.heap[l]? = some (.loop (recO fn aO.tmps ps assign body D)) := (g2.keeps l hS).trans hl
          have hS1 : S1 l := g2.2.1 l hS
          refine ⟨putO w1 l (.loop { recO fn aO.tmps ps assign body D with state := .busy }), run_beginRound hl1 rfl, ?_⟩
          have k1 := g1.putO (o := .loop { recO fn aO.tmps ps assign body D with state := .busy }) hl1 rfl rfl hW
          have k3 : FrR (putO w1 l (.loop { recO fn aO.tmps ps assign body D with state := .busy })) S1 m1 t2 a1 := fun i => putO_R hl1 rfl rfl (g3 i)
          refine wpIn_mono (exB_ok (ro := some l) (nn := nn) hrun hb n body t2 hp2 _ t3 hp3 m1 S1 a1 _ e3 k1 k3 g4) ?_
          rintro e a2 w2 ⟨rfl, m2, S2, f1, f2, f3, f4⟩
          have hl2 : w2.heap[l]? = some (.loop { recO fn aO.tmps ps assign body D with state := .busy }) := (f2.keeps l hS1).trans (putO_same hl1)
          have nx : ∀ r : Loop, Nx (some l) m S w m2 S2 (putO w2 l (.loop r)) := fun r => by
            refine ⟨g2.1.trans f2.1, fun b hb => f2.2.1 b (g2.2.1 b hb), fun b hb hne => ?_⟩
            have hbl : b ≠ l := by simpa using hne
            have e1 : (putO w2 l (.loop r)).heap[b]? = w2.heap[b]? := putO_other hbl
            have e2 : w2.heap[b]? = (putO w1 l (.loop { recO fn aO.tmps ps assign body D with state := .busy })).heap[b]? := f2.keeps b (g2.2.1 b hb)
            have e3 : (putO w1 l (.loop { recO fn aO.tmps ps assign body D with state := .busy })).heap[b]? = w1.heap[b]? := putO_other hbl
            exact e1.trans (e2.trans (e3.trans (g2.keeps b hb)))
          rcases hxq with ⟨rfl, rfl⟩ | ⟨rfl, rfl⟩
          · exact ⟨_, _, run_endRound none hl2, rfl, m2, S2, f1.putO (o := .loop (recO fn aO.tmps ps assign body D)) hl2 rfl rfl hW, nx _, putO_same hl2⟩
          · exact ⟨_, _, run_endRound (some .ret) hl2, rfl, m2, S2, f1.putO (o := .loop (recS (recO fn aO.tmps ps assign body D) true)) hl2 rfl rfl hW, nx _, putO_same hl2⟩
        split at h
        · rename_i t3 hp3' e3
          cases h
          exact fin .nrm t3 (.inl ⟨rfl, rfl⟩) e3
        · rename_i t3 hp3' e3
          cases h
          exact fin .ret t3 (.inr ⟨rfl, rfl⟩) e3
        · cases h
      · cases h
end
end Go.Vm
namespace Go.Vm
open Go
def YS (l : Nat) (ys : List Nat) (a : Act) : Prop := ∀ k ∈ ys, k < leftY → a.eval (.tmp k) = .func (.yield l) #[] #[]
/-- the iterator's frame, the caller's memory, the loop's record -/
def Inv (W0 : World) (O S0 : Nat → Prop) (m0 : EM) (mb : EM) (Sb : Nat → Prop) (wb : World) (l : Nat) (rec : Loop) (N : Nat) (t : Tr) (ys : List Nat) (hp : List Blk) (a : Act) (w : World) : Prop :=
  ∃ m S, HS W0 O S0 m0 hp m S w ∧ Nx (some l) mb Sb wb m S w ∧ FrR w S m t a ∧ a.tmps.size = N ∧ a.defers = [] ∧ YS l ys a ∧ w.heap[l]? = some (.loop (recS rec (memB leftY ys)))
section
variable {P : Program} {W0 : World} {O S0 : Nat → Prop} {m0 mb : EM} {Sb : Nat → Prop} {wb : World} {l : Nat} {rec : Loop} {N : Nat} {run : FuncId → List AV → List Blk → Option (AV × List Blk)} {M : Mode} {rnd : RndE}

theorem isY_ok {ys : List Nat} {x : Operand} {a : Act} (h : isY ys x = true) (hy : YS l ys a) : a.eval x = .func (.yield l) #[] #[] := by
  cases x with
  | tmp k =>
    simp only [isY, Bool.and_eq_true] at h
    exact hy k ((memB_ok k ys).1 h.1) (Nat.le_of_ble_eq_true h.2)
  | _ => cases h
theorem YS.del {ys : List Nat} {a : Act} (hy : YS l ys a) (d : Option Tmp) (u : Value) (hd : ∀ i, d = some i → i < a.tmps.size) : YS l (delY ys d) (a.put d u) := by
  cases d with
  | none => exact hy
  | some d =>
    intro k hk hk2
    simp only [delY, List.mem_filter, Bool.not_eq_true'] at hk
    have hne : ¬ d = k := by
      rintro rfl
      have := hk.2
      rw [Nat.beq_refl] at this
      cases this
    rw [eval_put_tmp a d k u (hd d rfl), if_neg hne]
    exact hy k hk.1 hk2
theorem left_del (ys : List Nat) (d : Option Tmp) (h : ∀ i, d = some i → i < leftY) : memB leftY (delY ys d) = memB leftY ys := by
  cases d with
  | none => rfl
  | some d =>
    have hlt := h d rfl
    rw [Bool.eq_iff_iff, memB_ok, memB_ok]
    simp only [delY, List.mem_filter, Bool.not_eq_true']
    constructor
    · exact fun h => h.1
    · intro h
      refine ⟨h, ?_⟩
      rw [Bool.eq_false_iff]
      intro e
      exact absurd (Nat.eq_of_beq_eq_true e) (Nat.ne_of_gt hlt)
/-- what a round does, whenever it comes -/
def RndOk (P : Program) (W0 : World) (O S0 : Nat → Prop) (m0 mb : EM) (Sb : Nat → Prop) (wb : World) (l : Nat) (rec : Loop) (rnd : RndE) : Prop :=
  ∀ (nn : Nat) (args : List AV) (hp hp3 : List Blk) (q : Bool) (us : List Value) (m : EM) (S : Nat → Prop) (w : World), rnd args hp = some (q, hp3) → HS W0 O S0 m0 hp m S w → Nx (some l) mb Sb wb m S w → RL w S m args us → w.heap[l]? = some (.loop rec) →
    us.length = rec.params.size ∧ RoundIn Fence.wide nn P l rec.fn ((rec.params.zip us.toArray).foldl (fun tmps (t, a) => tmps.setIfInBounds t a) rec.tmps) rec.assign rec.body w
      (fun e w' => e = .returned (.bool (!q)) ∧ ∃ m' S', HS W0 O S0 m0 hp3 m' S' w' ∧ Nx (some l) m S w m' S' w' ∧ w'.heap[l]? = some (.loop (recS rec q)))

theorem opI_ok {nn : Nat} {ops : Array Oper} {o : Oper} {i : Nat} {Q : Exit → Act → World → Prop} {K : Act → World → Prop} {t t' : Tr} {ys ys' : List Nat} {hp hp' : List Blk} {a : Act} {w : World} (hrun : RunOk P run) (hrnd : RndOk P W0 O S0 m0 mb Sb wb l rec rnd) (hSl : Sb l) (hi : ops[i]? = some o)
    (hnd : noDefer o.op = true) (hd : ∀ d, o.dst = some d → d < N) (hb : N < 16383) (h : opI P run M rnd ops o t ys hp = some (t', ys', hp')) (hv : Inv W0 O S0 m0 mb Sb wb l rec N t ys hp a w)
    (hK : ∀ a' w', Inv W0 O S0 m0 mb Sb wb l rec N t' ys' hp' a' w' → K a' w') : wpOpIn Fence.wide nn P ops Q i K a w := by
  obtain ⟨m, S, h1, h2, h3, h4, h5, h6, h7⟩ := hv
  have hdz : ∀ j, o.dst = some j → j < a.tmps.size := fun j hj => by rw [h4]; exact hd j hj
  have hdl : ∀ j, o.dst = some j → j < leftY := fun j hj => Nat.lt_trans (Nat.lt_trans (hd j hj) hb) (by decide)
  have plain : plainI P run M ops o t ys hp = some (t', ys', hp') → wpOpIn Fence.wide nn P ops Q i K a w := by
    intro hp1
    unfold plainI at hp1
    split at hp1
    · rename_i t1 hp2 e1
      cases hp1
      refine opN (ro := none) hrun hi hnd hd hb e1 h1 h3 h4 (fun u w' m' S' g1 g2 g3 => ?_)
      exact hK _ _ ⟨m', S', g1, h2.trans g2.weak, g3, by rw [put_size, h4], by rw [put_defers, h5], h6.del _ _ hdz, by rw [left_del ys o.dst hdl]; exact (g2.keeps l (h2.2.1 l hSl)).trans h7⟩
    · cases hp1
  unfold opI at h
  split at h
  · rename_i x ho
    cases hy : isY ys x with
    | false => rw [hy, cond_false] at h; exact plain h
    | true =>
      rw [hy, cond_true] at h
      unfold moveI at h
      split at h
      · rename_i d hg hdst
        cases h
        unfold wpOpIn
        rw [hi]
        simp only
        have hgv : guardV ops t o = some true := by unfold guardV; rw [hg]
        rw [guard_ok h3 hgv]
        simp only [if_true]
        unfold Oper.wpIn
        refine ⟨fun _ _ => trivial, ?_⟩
        rw [Oper.semAt_eq _ _ _ (no_defer hnd)]
        have e : (execOp a.eval o).run P w = .ok (.value (a.eval x)) w := by simp [execOp, ho]
        rw [e]
        have hml : memB leftY (d :: ys) = memB leftY ys := by
          have hlt := hdl d hdst
          have : Nat.beq leftY d = false := by rw [Bool.eq_false_iff]; intro e; exact absurd (Nat.eq_of_beq_eq_true e) (Nat.ne_of_gt hlt)
          simp only [memB, this, Bool.false_or]
        refine hK _ _ ⟨m, S, h1, h2, ?_, by rw [put_size, h4], by rw [put_defers, h5], ?_, by rw [hml]; exact h7⟩
        · rw [hdst]
          exact FrR.put h3 (.top _ _) (some d) (fun j hj => by rw [h4]; exact hd j (hdst.trans hj)) (by omega)
        · intro k hk hk2
          rw [hdst, eval_put_tmp a d k _ (hdz d hdst)]
          by_cases e2 : d = k
          · rw [if_pos e2]; exact isY_ok hy h6
          · rw [if_neg e2]
            rcases List.mem_cons.1 hk with e3 | e3
            · exact absurd e3.symm e2
            · exact h6 k e3 hk2
      · cases h
  · rename_i c ho
    split at h
    · rename_i x hc
      cases hy : isY ys x with
      | false => rw [hy, cond_false] at h; exact plain h
      | true =>
        rw [hy, cond_true] at h
        unfold yieldI at h
        split at h
        · cases h
        · rename_i hg
          cases hmy : memB leftY ys with
          | true => rw [hmy, cond_true] at h; cases h
          | false =>
          rw [hmy, cond_false] at h
          rw [hmy] at h7
          have fin : ∀ (q : Bool) (hp3 : List Blk), rnd (c.args.toList.map (ev t)) hp = some (q, hp3) → (∀ a' w', Inv W0 O S0 m0 mb Sb wb l rec N (putV t o.dst (.p (.bool (!q)))) (cond q (leftY :: delY ys o.dst) (delY ys o.dst)) hp3 a' w' → K a' w') → wpOpIn Fence.wide nn P ops Q i K a w := by
            intro q hp3 e3 hK
            obtain ⟨q0, q1⟩ := hrnd (nn - 1) _ hp hp3 q (c.args.toList.map a.eval) m S w e3 h1 h2 (evL_ok h3 c.args.toList) h7
            unfold wpOpIn
            rw [hi]
            simp only
            have hgv : guardV ops t o = some true := by unfold guardV; rw [hg]
            rw [guard_ok h3 hgv]
            simp only [if_true]
            unfold Oper.wpIn
            refine ⟨fun _ _ => trivial, ?_⟩
            rw [Oper.semAt_eq _ _ _ (no_defer hnd)]
            have hsz : (c.args.map a.eval).size = rec.params.size := by rw [← q0]; simp
            have hzip : (c.args.toList.map a.eval).toArray = c.args.map a.eval := by apply Array.toList_inj.1; simp
            rw [hzip] at q1
            have e : (execOp a.eval o).run P w = .ok (.round l rec.fn ((rec.params.zip (c.args.map a.eval)).foldl (fun tmps (t, a) => tmps.setIfInBounds t a) rec.tmps) rec.assign rec.body) w := by
              have hx := isY_ok hy h6
              have hyl := run_yield (P := P) h7 hsz
              simp only [execOp, ho, resolve, hc, hx, Deferred.ofValue, Sem.run_bind, Sem.run_pure, Result.andThen_ok, invoke]
              simpa [recS] using hyl
            rw [e]
            refine ⟨fun h => (by cases h), q1.mono ?_⟩
            rintro en w' ⟨rfl, m', S', g1, g2, g3⟩
            have h3' : FrR w' S' m' (putV t o.dst (.p (.bool (!q)))) (a.put o.dst (.bool (!q))) := FrR.put (fun j => g2.RL h7 g3 (h3 j)) (.p _ _) o.dst hdz (by omega)
            have hys := h6.del o.dst (.bool (!q)) hdz
            refine hK _ _ ⟨m', S', g1, h2.trans g2, h3', by rw [put_size, h4], by rw [put_defers, h5], ?_, ?_⟩
            · cases q with
              | false => exact hys
              | true =>
                intro k hk hk2
                rcases List.mem_cons.1 hk with e3 | e3
                · subst e3; exact absurd hk2 (Nat.lt_irrefl _)
                · exact hys k e3 hk2
            · cases q with
              | false => simp only [cond_false, left_del ys o.dst hdl, hmy]; exact g3
              | true =>
                have : memB leftY (leftY :: delY ys o.dst) = true := by simp [memB]
                simp only [cond_true, this]; exact g3
          split at h
          · rename_i hp3 e3
            cases h
            exact fin false _ e3 hK
          · rename_i hp3 e3
            cases h
            exact fin true _ e3 hK
          · cases h
    · exact plain h
  · exact plain h

theorem opsI_ok {nn : Nat} {ops : Array Oper} {Q : Exit → Act → World → Prop} {t' : Tr} {ys' : List Nat} {hp' : List Blk} (hrun : RunOk P run) (hrnd : RndOk P W0 O S0 m0 mb Sb wb l rec rnd) (hSl : Sb l) (hb : N < 16383) : ∀ (q : List Oper) (k : Nat) (t : Tr) (ys : List Nat) (hp : List Blk) (a : Act) (w : World),
    (∀ o ∈ q, noDefer o.op = true ∧ ∀ d, o.dst = some d → d < N) → (∀ j, q[j]? = ops[k + j]?) → opsI P run M rnd ops q t ys hp = some (t', ys', hp') → Inv W0 O S0 m0 mb Sb wb l rec N t ys hp a w →
    (∀ a' w', Inv W0 O S0 m0 mb Sb wb l rec N t' ys' hp' a' w' → Q .normal a' w') → wpOpsIn Fence.wide nn P ops Q (List.range' k q.length) a w
  | [], k, t, ys, hp, a, w, hn, hl, h, hv, hQ => by
    simp only [opsI] at h
    cases h
    exact hQ a w hv
  | o :: q, k, t, ys, hp, a, w, hn, hl, h, hv, hQ => by
    simp only [opsI] at h
    split at h
    · rename_i t1 ys1 hp1 ho
      have hk : ops[k]? = some o := by have := hl 0; simpa using this.symm
      rw [List.length_cons, List.range'_succ, wpOpsIn_cons]
      refine opI_ok hrun hrnd hSl hk (hn o (by simp)).1 (hn o (by simp)).2 hb ho hv (fun a' w' hv' => ?_)
      exact opsI_ok hrun hrnd hSl hb q (k + 1) t1 ys1 hp1 a' w' (fun o ho => hn o (by simp [ho])) (fun j => by have := hl (j + 1); simp only [List.getElem?_cons_succ] at this; rw [this]; congr 1; omega) h hv' hQ
    · cases h

/-- the iterator's code -/
theorem exI_ok {nn : Nat} (hrun : RunOk P run) (hrnd : RndOk P W0 O S0 m0 mb Sb wb l rec rnd) (hSl : Sb l) (hb : N < 16383) : ∀ (n : Nat),
    (∀ (c : Code) (t : Tr) (ys : List Nat) (hp : List Blk) (x : Ex) (t' : Tr) (ys' : List Nat) (hp' : List Blk) (a : Act) (w : World), exI P run M rnd N n c t ys hp = some (x, t', ys', hp') → Inv W0 O S0 m0 mb Sb wb l rec N t ys hp a w →
      c.wpIn Fence.wide nn P (fun e a' w' => e = exOf x ∧ Inv W0 O S0 m0 mb Sb wb l rec N t' ys' hp' a' w') a w) ∧
    (∀ (c1 : Code) (t : Tr) (ys : List Nat) (hp : List Blk) (x : Ex) (t' : Tr) (ys' : List Nat) (hp' : List Blk) (a : Act) (w : World), exI P run M rnd N n (.loop c1) t ys hp = some (x, t', ys', hp') → Inv W0 O S0 m0 mb Sb wb l rec N t ys hp a w →
      ∀ (b : Frame) (k : List Item) (cs : List Frame), b.roundOf = Fence.wide.round → Fence.wide.fn b.fn → Fence.wide.room (cs.length + 1 + nn) →
        ∃ e a' w', (e = exOf x ∧ Inv W0 O S0 m0 mb Sb wb l rec N t' ys' hp' a' w') ∧ ArrivesIn (Machine.fenced P Fence.wide) P (lone (b.atR a (.inLoop c1 :: k)) cs w) b k cs e a' w')
  | 0 => ⟨fun c t ys hp x t' ys' hp' a w h hs => by simp [exI] at h, fun c t ys hp x t' ys' hp' a w h hs => by simp [exI] at h⟩
  | n + 1 => by
    obtain ⟨ih, ihl⟩ := exI_ok (nn := nn) hrun hrnd hSl hb n
    have round : ∀ (c1 : Code) (t : Tr) (ys : List Nat) (hp : List Blk) (x : Ex) (t' : Tr) (ys' : List Nat) (hp' : List Blk) (a : Act) (w : World), exI P run M rnd N (n + 1) (.loop c1) t ys hp = some (x, t', ys', hp') → Inv W0 O S0 m0 mb Sb wb l rec N t ys hp a w →
      ∀ (b : Frame) (k : List Item) (cs : List Frame), b.roundOf = Fence.wide.round → Fence.wide.fn b.fn → Fence.wide.room (cs.length + 1 + nn) →
        ∃ e a' w', (e = exOf x ∧ Inv W0 O S0 m0 mb Sb wb l rec N t' ys' hp' a' w') ∧ ArrivesIn (Machine.fenced P Fence.wide) P (lone (b.atR a (.code c1 :: .inLoop c1 :: k)) cs w) b k cs e a' w' := by
      intro c1 t ys hp x t' ys' hp' a w h hs b k cs hro hfn hroom
      simp only [exI] at h
      split at h
      · rename_i t1 ys1 hp1 h1
        obtain ⟨e, a1, w1, ⟨rfl, hs1⟩, harr⟩ := ih c1 t ys hp _ t1 ys1 hp1 a w h1 hs b (.inLoop c1 :: k) cs hro hfn hroom
        obtain ⟨e2, a2, w2, hq2, harr2⟩ := ihl c1 t1 ys1 hp1 x t' ys' hp' a1 w1 h hs1 b k cs hro hfn hroom
        exact ⟨e2, a2, w2, hq2, .of_steps harr harr2⟩
      · rename_i r hne
        obtain ⟨e, a1, w1, ⟨rfl, hs1⟩, harr⟩ := ih c1 t ys hp x t' ys' hp' a w h hs b (.inLoop c1 :: k) cs hro hfn hroom
        refine ⟨_, a1, w1, ⟨rfl, hs1⟩, ?_⟩
        cases x with
        | nrm => exact absurd h (hne t' ys' hp')
        | exit id => exact .pass (x := .inLoop c1) rfl (fun _ _ => .inl (by simp [exOf])) harr
        | goto l => exact .pass (x := .inLoop c1) rfl (fun _ _ => .inl (by simp [exOf])) harr
        | ret => exact .pass (x := .inLoop c1) rfl (fun _ _ => .inl (by simp [exOf])) harr
    refine ⟨fun c t ys hp x t' ys' hp' a w h hs => ?_, fun c1 t ys hp x t' ys' hp' a w h hs b k cs hro hfn hroom => by
      obtain ⟨e, a', w', h1, h2⟩ := round c1 t ys hp x t' ys' hp' a w h hs b k cs hro hfn hroom
      exact ⟨e, a', w', h1, .of_steps (.one (fenced_calm hfn hroom rfl) stepR_inLoop) h2⟩⟩
    cases c with
    | skip => simp only [exI] at h; cases h; exact wpIn_skip ⟨rfl, hs⟩
    | region id ops draw =>
      simp only [exI] at h
      cases hc : (!draw && dstsOk N ops && ops.toList.all fun o => noDefer o.op) with
      | false => rw [hc] at h; cases h
      | true =>
        rw [hc, cond_true] at h
        obtain ⟨rfl, hn⟩ := reg_checks hc
        split at h
        · rename_i t1 ys1 hp1 e1
          cases h
          refine wpIn_region ?_
          have := opsI_ok (nn := nn) (Q := fun e a' w' => e = exOf .nrm ∧ Inv W0 O S0 m0 mb Sb wb l rec N t' ys' hp' a' w') hrun hrnd hSl hb ops.toList 0 t ys hp a w hn (fun j => by simp) e1 hs (fun a' w' q => ⟨rfl, q⟩)
          rwa [Array.length_toList, ← List.range_eq_range'] at this
        · cases h
    | seq c1 c2 =>
      simp only [exI] at h
      refine wpIn_seq ?_
      split at h
      · rename_i t1 ys1 hp1 h1
        refine wpIn_mono (ih c1 t ys hp _ t1 ys1 hp1 a w h1 hs) ?_
        rintro e a1 w1 ⟨rfl, hs1⟩
        exact ih c2 t1 ys1 hp1 x t' ys' hp' a1 w1 h hs1
      · rename_i r hne
        refine wpIn_mono (ih c1 t ys hp x t' ys' hp' a w h hs) ?_
        rintro e a1 w1 ⟨rfl, hs1⟩
        cases x with
        | nrm => exact absurd h (hne t' ys' hp')
        | exit id => exact ⟨rfl, hs1⟩
        | goto l => exact ⟨rfl, hs1⟩
        | ret => exact ⟨rfl, hs1⟩
    | cond y c1 c2 =>
      simp only [exI] at h
      split at h
      · rename_i v hv
        have he : a.eval y = .bool v := by
          obtain ⟨m, S, k1, k2, k3, _⟩ := hs
          have := ev_ok k3 y
          rw [hv] at this
          exact isP_ok (x := .p (.bool v)) rfl this
        cases v with
        | true => exact wpIn_cond_true he (ih c1 t ys hp x t' ys' hp' a w h hs)
        | false => exact wpIn_cond_false he (ih c2 t ys hp x t' ys' hp' a w h hs)
      · cases h
    | block id c1 =>
      simp only [exI] at h
      refine wpIn_block ?_
      split at h
      · rename_i id' t1 ys1 hp1 h1
        refine wpIn_mono (ih c1 t ys hp _ t1 ys1 hp1 a w h1 hs) ?_
        rintro e a1 w1 ⟨rfl, hs1⟩
        cases hid : Nat.beq id' id with
        | true =>
          rw [hid, cond_true] at h
          cases h
          have := Nat.eq_of_beq_eq_true hid
          simp only [exOf, Exit.inBlock, if_pos this]
          exact ⟨trivial, hs1⟩
        | false =>
          rw [hid, cond_false] at h
          cases h
          have : ¬ id' = id := fun e => by subst e; rw [Nat.beq_refl] at hid; cases hid
          simp only [exOf, Exit.inBlock, if_neg this]
          exact ⟨trivial, hs1⟩
      · rename_i r hne
        refine wpIn_mono (ih c1 t ys hp x t' ys' hp' a w h hs) ?_
        rintro e a1 w1 ⟨rfl, hs1⟩
        cases x with
        | exit id' => exact absurd h (hne id' t' ys' hp')
        | nrm => exact ⟨rfl, hs1⟩
        | goto l => exact ⟨rfl, hs1⟩
        | ret => exact ⟨rfl, hs1⟩
    | loop c1 =>
      intro b k cs hro hfn hroom
      obtain ⟨e, a', w', h1, h2⟩ := round c1 t ys hp x t' ys' hp' a w h hs b k cs hro hfn hroom
      exact ⟨e, a', w', h1, .of_steps (.one (fenced_calm hfn hroom rfl) stepR_loop) h2⟩
    | exit id => simp only [exI] at h; cases h; exact wpIn_exit ⟨rfl, hs⟩
    | ret => simp only [exI] at h; cases h; exact wpIn_ret ⟨rfl, hs⟩
    | label l => simp [exI] at h
    | goto l => simp [exI] at h
    | scope l => simp [exI] at h
    | rangeFunc f ps c1 c2 => simp [exI] at h
    | refuse why => simp [exI] at h
end
end Go.Vm
namespace Go.Vm
open Go
section
variable {P : Program} {W0 : World} {O S0 : Nat → Prop} {m0 : EM} {run : FuncId → List AV → List Blk → Option (AV × List Blk)} {M : Mode}

theorem start_frN {w : World} {S : Nat → Prop} {m : EM} {args : List AV} {args' : List Value} (h : RL w S m args args') (ha : args.length < 16383) (n : Nat) : FrR w S m (frameOf 0 args .lf) { tmps := args'.toArray ++ Array.replicate n undef, defers := [] } := by
  have key : ∀ (args : List AV) (k : Nat) (t : Tr) (i : Nat), k + args.length < 16383 → (frameOf k args t).get i = if k ≤ i ∧ i < k + args.length then args.getD (i - k) .top else t.get i := by
    intro args
    induction args with
    | nil => intro k t i h; rw [if_neg (by simp only [List.length_nil]; omega)]; rfl
    | cons v args ih =>
      intro k t i h
      simp only [List.length_cons] at h
      unfold frameOf
      rw [ih (k + 1) _ i (by omega), Tr.get_set t k i v (by omega)]
      simp only [List.length_cons]
      by_cases c1 : k = i
      · subst c1
        rw [if_neg (by omega), if_pos rfl, if_pos (by omega), Nat.sub_self]; rfl
      · rw [if_neg c1]
        by_cases c2 : k + 1 ≤ i ∧ i < k + 1 + args.length
        · rw [if_pos c2, if_pos (by omega)]
          obtain ⟨r, hr⟩ : ∃ r, i - k = r + 1 := ⟨i - k - 1, by omega⟩
          have hr2 : i - (k + 1) = r := by omega
          rw [hr, hr2]; rfl
        · rw [if_neg c2, if_neg (by omega)]
  intro i
  rw [key args 0 .lf i (by omega)]
  by_cases c : 0 ≤ i ∧ i < 0 + args.length
  · rw [if_pos c]
    have h1 : i < args.length := by omega
    have h2 : i < args'.length := h.1 ▸ h1
    have e1 : args.getD (i - 0) .top = args[i] := by simp [List.getD, h1]
    have e2 : (Act.eval { tmps := args'.toArray ++ Array.replicate n undef, defers := [] } (.tmp i)) = args'[i] := by
      simp only [Act.eval, Array.getD_eq_getD_getElem?]
      rw [Array.getElem?_append_left (by simpa using h2)]
      simp [h2]
    rw [e1, e2]
    exact h.2 i h1 h2
  · rw [if_neg c]; exact .top _ _

/-- **a whole range over a function** -/
theorem rangeE_ok {N n : Nat} {g : Operand} {ps : Array Tmp} {assign body : Code} {t : Tr} {hp hp' : List Blk} {a : Act} {w : World} {Q : Exit → Act → World → Prop} (hrun : RunOk P run) (hb : N < 16383) {q : Bool} (h : rangeE P run M N n g ps assign body t hp = some (q, hp')) (hs : Sim W0 O S0 m0 N t hp a w)
    (hQ : ∀ a' w', Sim W0 O S0 m0 N t hp' a' w' → Q (exOf (cond q .ret .nrm)) a' w') : (Code.rangeFunc g ps assign body).wp P Q a w := by
  obtain ⟨m, S, h1, h2, h3, h4, h5⟩ := hs
  unfold rangeE at h
  split at h
  · rename_i gf xs us hg
    cases hc : callee P gf with
    | false => rw [hc] at h; cases h
    | true =>
      rw [hc, cond_true] at h
      split at h
      · rename_i fi hfi
        split at h
        · rename_i ci hci
          cases hz : (Nat.beq fi.results.size 0 && Nat.blt (Nat.max (xs.length + 1 + us.length) fi.ntmps) 16383) with
          | false => rw [hz] at h; cases h
          | true =>
            rw [hz, cond_true] at h
            rw [Bool.and_eq_true] at hz
            have hres : fi.results = #[] := Array.size_eq_zero_iff.1 (Nat.eq_of_beq_eq_true hz.1)
            have hNi : Nat.max (xs.length + 1 + us.length) fi.ntmps < 16383 := Nat.le_of_ble_eq_true hz.2
            have hval : ∃ va vb : List Value, a.eval g = .func (.func gf) va.toArray vb.toArray ∧ RL w S m xs va ∧ RL w S m us vb := by
              have := ev_ok h3 g
              rw [hg] at this
              generalize a.eval g = v at this
              cases this with
              | fn _ _ _ _ va vb k1 k2 k3 k4 => exact ⟨va, vb, rfl, ⟨k1, k2⟩, ⟨k3, k4⟩⟩
            obtain ⟨va, vb, hev, hra, hrb⟩ := hval
            refine (wpIn_wide (n := 0)).1 (wpIn_rangeFunc ?_)
            intro fnO _
            -- the world with the record
            let D := w.heap.size
            let l := w.heap.size + 1
            let rec' : Loop := recO fnO a.tmps ps assign body D
            let wa := w.alloc (.deferred (some []))
            let w1 := wa.alloc (.loop rec')
            have hwa : wa.heap.size = l := by show (w.alloc _).heap.size = w.heap.size + 1; simp
            have hl1 : w1.heap[l]? = some (.loop rec') := by
              have := World.alloc_heap_new wa (.loop rec')
              rw [hwa] at this; exact this
            have hD1 : w1.heap[D]? = some (.deferred (some [])) :=
              (Go.RowKit.Below.heap_alloc wa _ D (by rw [hwa]; omega)).trans (World.alloc_heap_new w _)
            have hs1 := (h1.allocS (.deferred (some []))).allocS (.loop rec')
            have hn1 : Nx none m S w m (fun b => (S b ∨ b = w.heap.size) ∨ b = wa.heap.size) w1 :=
              ⟨Ext.refl _, fun b hb => .inl (.inl hb), fun b hb _ => by
                have hlt := h1.sok b hb
                exact (Go.RowKit.Below.heap_alloc wa _ b (by rw [hwa]; omega)).trans (Go.RowKit.Below.heap_alloc w _ b hlt)⟩
            have hSl : (fun b => (S b ∨ b = w.heap.size) ∨ b = wa.heap.size) l := .inr hwa.symm
            have hWl : W0.heap.size ≤ l := by have := h1.size; omega
            have hrnd : RndOk P W0 O S0 m0 m (fun b => (S b ∨ b = w.heap.size) ∨ b = wa.heap.size) w1 l rec' (roundE P run M N n t ps assign body) := by
              intro nn args hp1 hp3 q1 vs m1 S1 w2 e1 k1 k2 k3 k4
              exact roundE_ok (fn := fnO) (D := D) hrun hb e1 h4 k1 (fun i => k2.RL hl1 k4 (hn1.R (h3 i))) k3 k4 (k2.2.1 l hSl) hWl
            have hargs : RL w1 (fun b => (S b ∨ b = w.heap.size) ∨ b = wa.heap.size) m (xs ++ .top :: us) (va ++ .func (.yield l) #[] #[] :: vb) :=
              RL.append (hra.mono hn1.keeps hn1.2.1 hn1.1) (.cons (.top _ _) (hrb.mono hn1.keeps hn1.2.1 hn1.1))
            have hlen : (xs ++ AV.top :: us).length = xs.length + 1 + us.length := by simp; omega
            have hlen' : (va ++ Value.func (.yield l) #[] #[] :: vb).length = xs.length + 1 + us.length := by rw [← hargs.1, hlen]
            have hal : va.length = xs.length := hra.1.symm
            have hml : memB leftY [xs.length] = false := by
              have h9 : leftY = 16384 := rfl
              have hle : xs.length + 1 + us.length ≤ Nat.max (xs.length + 1 + us.length) fi.ntmps := Nat.le_max_left _ _
              have : Nat.beq leftY xs.length = false := by rw [Bool.eq_false_iff]; intro e; have := Nat.eq_of_beq_eq_true e; omega
              simp [memB, this]
            have hinv : Inv W0 O S0 m0 m (fun b => (S b ∨ b = w.heap.size) ∨ b = wa.heap.size) w1 l rec' (Nat.max (xs.length + 1 + us.length) fi.ntmps) (frameOf 0 (xs ++ .top :: us) .lf) [xs.length] hp
                { tmps := (va ++ .func (.yield l) #[] #[] :: vb).toArray ++ Array.replicate (fi.ntmps - (va ++ Value.func (.yield l) #[] #[] :: vb).toArray.size) undef, defers := [] } w1 := by
              refine ⟨m, _, hs1, Nx.refl, start_frN hargs (by rw [hlen]; exact Nat.lt_of_le_of_lt (Nat.le_max_left _ _) hNi) _, ?_, rfl, ?_, by rw [hml]; exact hl1⟩
              · simp only [Array.size_append, List.size_toArray, Array.size_replicate]
                rw [hlen']
                show xs.length + 1 + us.length + (fi.ntmps - (xs.length + 1 + us.length)) = max (xs.length + 1 + us.length) fi.ntmps
                omega
              · intro k hk _
                simp only [List.mem_singleton] at hk
                subst hk
                simp only [Act.eval, Array.getD_eq_getD_getElem?]
                rw [Array.getElem?_append_left (by simp; omega)]
                simp [← hal]
            have fin : ∀ x t2 ys2, memB leftY ys2 = q → (x = .nrm ∨ x = .ret) → exI P run M (roundE P run M N n t ps assign body) (Nat.max (xs.length + 1 + us.length) fi.ntmps) n ci (frameOf 0 (xs ++ .top :: us) .lf) [xs.length] hp = some (x, t2, ys2, hp') →
                CallsIn Fence.wide (0 - 1) P gf (va ++ .func (.yield l) #[] #[] :: vb).toArray w1 (rangePost Fence.wide 0 P l Q { a with defers := { target := .collected D, args := #[] } :: a.defers }) := by
              intro x t2 ys2 hqy hx hex
              refine callsIn_of_wp_marks hfi hci trivial ?_ rfl
              refine wpIn_mono ((exI_ok (nn := 0 - 1) hrun hrnd hSl hNi n).1 ci _ _ hp x t2 ys2 hp' _ w1 hex hinv) ?_
              rintro e a3 w3 ⟨rfl, m3, S3, g1, g2, g3, g4, g5, g6, g7⟩
              have hend : ∃ v, (results fi a3.tmps).run P w3 = .ok v w3 ∧ rangePost Fence.wide 0 P l Q { a with defers := { target := .collected D, args := #[] } :: a.defers } (.returned v) w3 := by
                have hnb : (recS rec' (memB leftY ys2)).state ≠ .busy := by
                  cases memB leftY ys2 <;> simp [recS, rec', recO]
                refine ⟨.tuple #[], ?_, _, putO w3 l (.loop { recS rec' (memB leftY ys2) with state := .exhausted }), run_endLoop g7 hnb, ?_⟩
                · unfold results; rw [hres]; simp
                · have hk : Keeps S w (putO w3 l (.loop { recS rec' (memB leftY ys2) with state := .exhausted })) := by
                    intro b hb'
                    have hlt := h1.sok b hb'
                    have hne : b ≠ l := by omega
                    rw [putO_other hne, g2.2.2 b (.inl (.inl hb')) (by simpa using hne)]
                    exact hn1.keeps b hb'
                  have hsub : ∀ b, S b → S3 b := fun b hb' => g2.2.1 b (.inl (.inl hb'))
                  have hq2 : Q (exOf (cond q .ret .nrm)) { a with defers := { target := .collected D, args := #[] } :: a.defers } (putO w3 l (.loop { recS rec' (memB leftY ys2) with state := .exhausted })) → (match (recS rec' (memB leftY ys2)).pending with
                       | none => Q .normal { a with defers := { target := .collected D, args := #[] } :: a.defers } (putO w3 l (.loop { recS rec' (memB leftY ys2) with state := .exhausted }))
                       | some c => c.wpIn Fence.wide 0 P Q { a with defers := { target := .collected D, args := #[] } :: a.defers } (putO w3 l (.loop { recS rec' (memB leftY ys2) with state := .exhausted }))) := by
                    intro hq2
                    rw [hqy] at hq2 ⊢
                    cases q with
                    | false => exact hq2
                    | true => exact wpIn_ret hq2
                  refine hq2 ?_
                  refine hQ _ _ ⟨m3, S3, g1.putO g7 rfl rfl hWl, h2.trans g2.1, fun i => (h3 i).mono hk hsub g2.1, h4, ?_⟩
                  have hm := h5.mono hk hsub
                  have hDS : S3 D := g2.2.1 D (.inl (.inr rfl))
                  have hDh : (putO w3 l (.loop { recS rec' (memB leftY ys2) with state := .exhausted })).heap[D]? = some (.deferred (some [])) := by
                    have hne : D ≠ l := by show w.heap.size ≠ w.heap.size + 1; omega
                    rw [putO_other hne, g2.2.2 D (.inl (.inr rfl)) (by simpa using hne)]
                    exact hD1
                  refine ⟨List.pairwise_cons.2 ⟨fun d hd => ?_, hm.1⟩, fun d hd => ?_⟩
                  · obtain ⟨r, q1, q2, _⟩ := h5.2 d hd
                    rw [q1]
                    intro e
                    cases e
                    have := h1.sok _ q2
                    exact Nat.lt_irrefl _ this
                  · rcases List.mem_cons.1 hd with rfl | hd
                    · exact ⟨D, rfl, hDS, h1.size, hDh⟩
                    · exact hm.2 d hd
              rcases hx with rfl | rfl
              · show LeavesInM Fence.wide (0 - 1) P fi a3.tmps _ a3.defers .returning w3
                rw [g5]; exact hend
              · show LeavesInM Fence.wide (0 - 1) P fi a3.tmps _ a3.defers .returning w3
                rw [g5]; exact hend
            have hcall : CallsIn Fence.wide (0 - 1) P gf (va ++ .func (.yield l) #[] #[] :: vb).toArray w1 (rangePost Fence.wide 0 P l Q { a with defers := { target := .collected D, args := #[] } :: a.defers }) := by
              split at h
              · rename_i t2 ys2 hp2 hex; cases h; exact fin _ _ _ rfl (.inl rfl) hex
              · rename_i t2 ys2 hp2 hex; cases h; exact fin _ _ _ rfl (.inr rfl) hex
              · cases h
            refine ⟨l, [{ target := .collected D, args := #[] }], w1, { target := .fn (.func gf) vb.toArray, args := va.toArray ++ #[.func (.yield l) #[] #[]] }, w1, gf, (va ++ .func (.yield l) #[] #[] :: vb).toArray, w1, run_enterLoop_outer fnO a.tmps ps assign body, ?_, fun _ _ => trivial, ?_, fun h => (by cases h), hcall⟩
            · have em : Array.map a.eval #[Operand.const (Value.func (Fn.yield l) #[] #[])] = #[Value.func (Fn.yield l) #[] #[]] := by simp [Act.eval]
              simp only [resolve,  hev, Deferred.ofValue, Sem.run_pure, em]
            · have := callFunc_run hc (args := (va ++ .func (.yield l) #[] #[] :: vb).toArray) w1
              simpa [invoke] using this
        · cases h
      · cases h
  · cases h
end
end Go.Vm
