/- Code in the virtual memory. -/
import Derived.Test.YtlemialjfnbchaaGreatVmC

namespace Go.Vm
open Go

section
variable {P : Program} {W0 : World} {O S0 : Nat → Prop} {m0 : EM} {hp hp' : List Blk} {t t' : Tr} {a : Act} {w : World} {N : Nat}

/-- what is deferred: blocks of rounds that are over, each once, without calls -/
def Marks (W0 : World) (S : Nat → Prop) (w : World) (ds : List Deferred) : Prop :=
  ds.Pairwise (fun d d' => d.target ≠ d'.target) ∧ ∀ d ∈ ds, ∃ r, d.target = .collected r ∧ S r ∧ W0.heap.size ≤ r ∧ w.heap[r]? = some (.deferred (some []))
theorem Marks.nil (W0 : World) (S : Nat → Prop) (w : World) : Marks W0 S w [] := ⟨.nil, fun d h => by simp at h⟩
theorem Marks.mono {W0 w w' : World} {S S' : Nat → Prop} {ds : List Deferred} (h : Marks W0 S w ds) (hk : Keeps S w w') (hs : ∀ b, S b → S' b) : Marks W0 S' w' ds := by
  refine ⟨h.1, fun d hd => ?_⟩
  obtain ⟨r, h1, h2, h3, h4⟩ := h.2 d hd
  exact ⟨r, h1, hs r h2, h3, (hk r h2).trans h4⟩

/-- a frame and a world as the virtual memory has them -/
def Sim (W0 : World) (O S0 : Nat → Prop) (m0 : EM) (N : Nat) (t : Tr) (hp : List Blk) (a : Act) (w : World) : Prop :=
  ∃ m S, HS W0 O S0 m0 hp m S w ∧ Ext m0 m ∧ FrR w S m t a ∧ a.tmps.size = N ∧ Marks W0 S w a.defers

theorem eval_put_tmp (a : Act) (d i : Nat) (v : Value) (hd : d < a.tmps.size) : (a.put (some d) v).eval (.tmp i) = if d = i then v else a.eval (.tmp i) := by
  simp only [Act.put, Act.eval]
  by_cases h : d = i
  · subst h
    rw [if_pos rfl]
    simp [Array.getD_eq_getD_getElem?, hd]
  · rw [if_neg h]
    simp [Array.getD_eq_getD_getElem?, Array.getElem?_setIfInBounds_ne h]
theorem FrR.put {S : Nat → Prop} {m : EM} {v : AV} {u : Value} (hf : FrR w S m t a) (hv : R w S m v u) (d : Option Tmp) (hN : ∀ i, d = some i → i < a.tmps.size) (hb : a.tmps.size < 16383) : FrR w S m (putV t d v) (a.put d u) := by
  cases d with
  | none => exact hf
  | some d =>
    have hd := hN d rfl
    intro i
    rw [eval_put_tmp a d i u hd]
    show R w S m ((t.set d v).get i) _
    rw [Tr.get_set t d i v (Nat.lt_trans hd hb)]
    by_cases h : d = i
    · rw [if_pos h, if_pos h]; exact hv
    · rw [if_neg h, if_neg h]; exact hf i
theorem put_size (a : Act) (d : Option Tmp) (v : Value) : (a.put d v).tmps.size = a.tmps.size := by
  cases d <;> simp [Act.put]
theorem put_defers (a : Act) (d : Option Tmp) (v : Value) : (a.put d v).defers = a.defers := by
  cases d <;> simp [Act.put]

theorem tmps_get (a : Act) (d : Nat) (b : Bool) (h : a.eval (.tmp d) = .bool b) : a.tmps[d]? = some (.bool b) := by
  simp only [Act.eval, Array.getD_eq_getD_getElem?] at h
  cases hq : a.tmps[d]? with
  | none => rw [hq] at h; simp [undef] at h
  | some v => rw [hq] at h; simp at h; rw [h]
theorem guard_ok {S : Nat → Prop} {m : EM} {ops : Array Oper} {o : Oper} {q : Bool} (hf : FrR w S m t a) (hg : guardV ops t o = some q) : Region.wanted o (yielded ops a.tmps) = q := by
  unfold guardV at hg
  unfold Region.wanted
  split at hg
  · rename_i h1; cases hg; rw [h1]
  · rename_i j want h1
    rw [h1]
    simp only
    split at hg
    · rename_i d hd
      unfold yielded
      rw [hd, Option.bind_some]
      have hr := hf d
      split at hg
      · rename_i b hb
        rw [hb] at hr
        cases hg
        have he : a.eval (.tmp d) = .bool b := isP_ok (x := .p (.bool b)) rfl hr
        rw [tmps_get a d b he]
        simp only
        cases b <;> cases want <;> rfl
      · rename_i v hne hv
        rw [hv] at hr
        cases hg
        have he : a.eval (.tmp d) = v := isP_ok (x := .p v) rfl hr
        cases hq : a.tmps[d]? with
        | none => rfl
        | some u =>
          have hu : a.eval (.tmp d) = u := by simp only [Act.eval, Array.getD_eq_getD_getElem?, hq]; rfl
          rw [hu] at he
          subst he
          cases u <;> first | rfl | exact absurd rfl (hne _)
      · cases hg
    · rename_i hd
      cases hg
      unfold yielded
      rw [hd]
      rfl

/-- one operation of a region -/
theorem opV_ok {run : FuncId → List AV → List Blk → Option (AV × List Blk)} {M : Mode} {ops : Array Oper} {o : Oper} {i : Nat} {Q : Exit → Act → World → Prop} {K : Act → World → Prop} (hrun : RunOk P run) (hi : ops[i]? = some o) (hd : ∀ d, o.dst = some d → d < N) (hb : N < 16383)
    (h : opV P run M ops o t hp = some (t', hp')) (hs : Sim W0 O S0 m0 N t hp a w) (hK : ∀ a' w', Sim W0 O S0 m0 N t' hp' a' w' → K a' w') : wpOp P ops Q i K a w := by
  obtain ⟨m, S, h1, h2, h3, h4, h5⟩ := hs
  have fin : ∀ {m' : EM} {S' : Nat → Prop} {w' : World} {v : AV} {u : Value}, HS W0 O S0 m0 hp' m' S' w' → Ext m m' → FrR w' S' m' t a → R w' S' m' v u → Marks W0 S' w' a.defers → t' = putV t o.dst v → K (a.put o.dst u) w' := by
    intro m' S' w' v u k1 k2 k3 k4 k6 k5
    refine hK _ _ ⟨m', S', k1, h2.trans k2, ?_, by rw [put_size, h4], by rw [put_defers]; exact k6⟩
    rw [k5]
    exact k3.put k4 _ (fun i hi => by rw [h4]; exact hd i hi) (by omega)
  unfold opV at h
  unfold wpOp
  rw [hi]
  simp only
  split at h
  · cases h
  · rename_i hg
    cases h
    rw [guard_ok h3 hg]
    simp only [Bool.false_eq_true, if_false]
    exact fin h1 (Ext.refl _) h3 (.p _ _) h5 rfl
  · rename_i hg
    rw [guard_ok h3 hg]
    simp only [if_true]
    left
    split at h
    · cases h
    · rename_i v hp1 hv
      cases h
      obtain ⟨nx, w', m', S', k1, k2, k3, k4, k5, k6⟩ := (vop_ok h1 h3 hv).1 _ _ rfl
      unfold Oper.wp
      rw [k1]
      cases nx with
      | value u => exact fin k3 k4 (h3.mono k6 k5 k4) k2 (h5.mono k6 k5) rfl
      | skip =>
        have : v = .p undef := k2
        subst this
        exact fin k3 k4 (h3.mono k6 k5 k4) (.p _ _) (h5.mono k6 k5) rfl
      | _ => exact absurd k2 (by simp [Gives])
    · rename_i f args hv
      obtain ⟨args', k1, k2⟩ := (vop_ok h1 h3 hv).2 _ _ rfl
      split at h
      · cases h
      · rename_i v hp1 hc
        cases h
        unfold Oper.wp
        rw [k1]
        refine (callV_ok hrun h1 k2 hc).mono ?_
        rintro e w' ⟨u, m', S', rfl, q1, q2, q3, q4, q5⟩
        exact fin q1 q2 (h3.mono q4 q3 q2) q5 (h5.mono q4 q3) rfl

theorem opsV_ok {run : FuncId → List AV → List Blk → Option (AV × List Blk)} {M : Mode} {ops : Array Oper} {Q : Exit → Act → World → Prop} (hrun : RunOk P run) (hb : N < 16383) (hd : ∀ o ∈ ops.toList, ∀ d, o.dst = some d → d < N) :
    ∀ (l : List Oper) (k : Nat) (t : Tr) (hp : List Blk) (a : Act) (w : World), (∀ j, l[j]? = ops[k + j]?) → opsV P run M ops l t hp = some (t', hp') → Sim W0 O S0 m0 N t hp a w → (∀ a' w', Sim W0 O S0 m0 N t' hp' a' w' → Q .normal a' w') →
      wpOps P ops Q (List.range' k l.length) a w
  | [], k, t, hp, a, w, hl, h, hs, hQ => by
    simp only [opsV] at h
    cases h
    exact hQ _ _ hs
  | o :: l, k, t, hp, a, w, hl, h, hs, hQ => by
    simp only [opsV] at h
    split at h
    · rename_i t1 hp1 ho
      have hk : ops[k]? = some o := by have := hl 0; simpa using this.symm
      have hmem : o ∈ ops.toList := by
        obtain ⟨hlt, e⟩ := Array.getElem?_eq_some_iff.1 hk
        rw [← e]; simp
      rw [List.length_cons, List.range'_succ, wpOps_cons]
      refine opV_ok hrun hk (hd o hmem) hb ho hs (fun a' w' hs' => ?_)
      exact opsV_ok hrun hb hd l (k + 1) t1 hp1 a' w' (fun j => by have := hl (j + 1); simp only [List.getElem?_cons_succ] at this; rw [this]; congr 1; omega) h hs' hQ
    · cases h

end
end Go.Vm
