/- Each operation of the virtual memory is the model's. -/
import Derived.Test.YtlemialjfnbchaaGreatVmH
import Derived.ChangeKeysEq
import Derived.Laws.StructEq

namespace Go.Vm
open Go

section
variable {P : Program} {W0 : World} {O S0 : Nat → Prop} {m0 : EM} {hp hp' : List Blk} {m : EM} {S : Nat → Prop} {w : World} {a : Act} {t : Tr} {o : Oper} {v : AV}

/-- what an operation gives stands for what the model gives -/
def Gives (w : World) (S : Nat → Prop) (m : EM) (v : AV) : Next → Prop
  | .value u => R w S m v u
  | .skip => v = .p undef
  | _ => False
def Good (P : Program) (W0 : World) (O S0 : Nat → Prop) (m0 : EM) (m : EM) (S : Nat → Prop) (w : World) (s : Sem Next) (v : AV) (hp' : List Blk) : Prop :=
  ∃ nx w' m' S', s.run P w = .ok nx w' ∧ Gives w' S' m' v nx ∧ HS W0 O S0 m0 hp' m' S' w' ∧ Ext m m' ∧ (∀ b, S b → S' b) ∧ Keeps S w w'
def FrR (w : World) (S : Nat → Prop) (m : EM) (t : Tr) (a : Act) : Prop := ∀ i, R w S m (t.get i) (a.eval (.tmp i))

theorem ev_ok (hf : FrR w S m t a) (x : Operand) : R w S m (ev t x) (a.eval x) := by
  cases x with
  | tmp i => exact hf i
  | const v => exact .p _ _
  | global g => exact .p _ _
  | func f => exact .p _ _
theorem evL_ok (hf : FrR w S m t a) (l : List Operand) : RL w S m (l.map (ev t)) (l.map a.eval) := by
  induction l with
  | nil => exact .nil
  | cons x l ih => exact .cons (ev_ok hf x) ih

/-- the world is left alone -/
theorem Good.same (h : HS W0 O S0 m0 hp m S w) {s : Sem Next} {u : Value} (hr : s.run P w = .ok (.value u) w) (hv : R w S m v u) : Good P W0 O S0 m0 m S w s v hp :=
  ⟨.value u, w, m, S, hr, hv, h, Ext.refl _, fun _ h => h, Keeps.refl _ _⟩

theorem pv_run {α : Type} : ∀ (s : Sem α) (x : α) (w : World), pv P s = some x → s.run P w = .ok x w := by
  intro s
  induction s with
  | pure a => intro x w h; simp [pv] at h; subst h; rfl
  | program k ih => intro x w h; simp only [pv] at h; simp only [Sem.run]; exact ih P x w h
  | mark m k ih => intro x w h; simp only [pv] at h; simp only [Sem.run]; exact ih x w h
  | _ => intro x w h; simp [pv] at h

theorem allConc_ok (hf : FrR w S m t a) : ∀ (l : List Operand), allConc t l = true → ∀ x ∈ l, rho t x = a.eval x
  | [], _, x, hx => by cases hx
  | y :: l, h, x, hx => by
    simp only [allConc, Bool.and_eq_true] at h
    rcases List.mem_cons.1 hx with rfl | hx
    · obtain ⟨u, hu⟩ := Option.isSome_iff_exists.1 h.1
      rw [rho, hu, Option.getD_some]
      exact (conc_ok hu (ev_ok hf x)).symm
    · exact allConc_ok hf l h.2 x hx

theorem pure1_run (hf : FrR w S m t a) {out : Out} (h : pure1 P t hp o = some out) :
    (∃ u, out = .val (abs u) hp ∧ (execOp a.eval o).run P w = .ok (.value u) w) ∨
    (∃ f args, out = .call f (args.toList.map abs1) ∧ (execOp a.eval o).run P w = .ok (.enter f args) w) := by
  unfold pure1 at h
  cases hc : (noSel o.op && allConc t o.op.operands.toList) with
  | false => rw [hc] at h; cases h
  | true =>
    rw [hc, cond_true] at h
    rw [Bool.and_eq_true] at hc
    have he : execOp (rho t) o = execOp a.eval o := by
      refine execOp_congr o (fun cs b e => ?_) (fun x hx => allConc_ok hf _ hc.2 x (by simpa using hx))
      rw [e] at hc; simp [noSel] at hc
    rw [he] at h
    split at h
    · rename_i u hu; cases h; exact .inl ⟨u, rfl, pv_run _ _ w hu⟩
    · rename_i f args hu; cases h; exact .inr ⟨f, args, rfl, pv_run _ _ w hu⟩
    · cases h
theorem pure1_val (h : HS W0 O S0 m0 hp m S w) (hf : FrR w S m t a) (ho : pure1 P t hp o = some (.val v hp')) : Good P W0 O S0 m0 m S w (execOp a.eval o) v hp' := by
  rcases pure1_run hf ho with ⟨u, e, hr⟩ | ⟨f, args, e, hr⟩
  · cases e; exact Good.same h hr (abs_ok _ _ _ _)
  · cases e

/-! ### memory -/
theorem getB_ok (h : HS W0 O S0 m0 hp m S w) {i g : Nat} {b : Blk} (hb : getB hp i g = some b) :
    hp[i]? = some b ∧ b.gen = g ∧ ∃ e, m i = some e ∧ e.gen = g ∧ (e.pl = none → b.cells = []) ∧ ∀ pl, e.pl = some pl → BlkR w S m b pl := by
  unfold getB at hb
  split at hb
  · rename_i b' hb'
    cases hc : (Nat.beq b'.gen g && noKeys b') with
    | false => rw [hc] at hb; cases hb
    | true =>
      rw [hc, cond_true] at hb
      cases hb
      rw [Bool.and_eq_true] at hc
      have hg : b.gen = g := Nat.eq_of_beq_eq_true hc.1
      obtain ⟨e, he, h1, h2, h3⟩ := h.att hb'
      exact ⟨hb', hg, e, he, h1.trans hg, h2, fun pl hpl => (h3 pl hpl).row (noKeys_ok hc.2)⟩
  · cases hb
theorem getB_keys {i g : Nat} {b : Blk} (hb : getB hp i g = some b) : b.keys = none := by
  unfold getB at hb
  split at hb
  · rename_i b' hb'
    cases hc : (Nat.beq b'.gen g && noKeys b') with
    | false => rw [hc] at hb; cases hb
    | true =>
      rw [hc, cond_true] at hb
      cases hb
      rw [Bool.and_eq_true] at hc
      exact noKeys_ok hc.2
  · cases hb
theorem getM_raw (h : HS W0 O S0 m0 hp m S w) {i g : Nat} {ks : List Value} {b : Blk} {u : Value} (hb : getM hp i g = some (ks, b)) (hr : R w S m (.mp i g) u) :
    hp[i]? = some b ∧ b.keys = some ks ∧ True ∧ ∃ e pl, m i = some e ∧ e.pl = some pl ∧ u = .map (some pl.b) ∧
      ∃ es clock, w.heap[pl.b]? = some (.map es clock) ∧ es.toList.map (·.key) = ks ∧ RL w S (cond b.row noEM m) b.cells (es.toList.map (·.val)) ∧ MapKept.Stamped es clock := by
  unfold getM at hb
  split at hb
  · rename_i b' hb'
    cases hc : Nat.beq b'.gen g with
    | false => rw [hc] at hb; cases hb
    | true =>
      rw [hc, cond_true] at hb
      split at hb
      · rename_i ks' hks
        cases hb
        have hg : b.gen = g := Nat.eq_of_beq_eq_true hc
        obtain ⟨e, he, h1, h2, h3⟩ := h.att hb'
        cases hr with
        | map m i e' pl q1 q2 =>
          rw [he] at q1; cases q1
          obtain ⟨r1, r2⟩ := (h3 pl q2).map ks hks
          exact ⟨hb', hks, r1, e, pl, he, q2, rfl, r2⟩
        | mapOld m i g e' c q1 q2 => rw [he] at q1; cases q1; omega
      · cases hb
  · cases hb

theorem RL.weak {w : World} {S : Nat → Prop} {m : EM} {r : Bool} {xs : List AV} {us : List Value} (h : RL w S (cond r noEM m) xs us) : RL w S m xs us := by
  cases r with
  | true => exact (show RL w S noEM xs us from h).mono (Keeps.refl _ _) (fun _ h => h) (Ext.no m)
  | false => exact h
theorem getM_ok (h : HS W0 O S0 m0 hp m S w) {i g : Nat} {ks : List Value} {b : Blk} {u : Value} (hb : getM hp i g = some (ks, b)) (hr : R w S m (.mp i g) u) :
    hp[i]? = some b ∧ b.keys = some ks ∧ True ∧ ∃ e pl, m i = some e ∧ e.pl = some pl ∧ u = .map (some pl.b) ∧
      ∃ es clock, w.heap[pl.b]? = some (.map es clock) ∧ es.toList.map (·.key) = ks ∧ RL w S m b.cells (es.toList.map (·.val)) ∧ MapKept.Stamped es clock := by
  obtain ⟨h1, h2, h3, e, pl, h4, h5, h6, es, clock, h7, h8, h9, h10⟩ := getM_raw h hb hr
  exact ⟨h1, h2, h3, e, pl, h4, h5, h6, es, clock, h7, h8, h9.weak, h10⟩

/-- the cells that a pointer points into, and the model's -/
theorem cellsAt_ok (h : HS W0 O S0 m0 hp m S w) {x : AV} {u : Value} {xs : List AV} {k : Nat} (hx : cellsAt hp x = some (xs, k)) (hr : R w S m x u) :
    ∃ b o cs, u = .pointer (some ⟨b, o + k, none⟩) ∧ w.rangeAt b o cs ∧ RL w S m xs cs := by
  cases x with
  | ip ys j =>
    simp [cellsAt] at hx
    obtain ⟨rfl, rfl⟩ := hx
    cases hr with
    | ip m xs k b o f h1 h2 h3 =>
      refine ⟨b, o, (List.range ys.length).map f, rfl, ?_, ?_, ?_⟩
      · intro j v hv
        rw [List.getElem?_map] at hv
        cases hq : (List.range ys.length)[j]? with
        | none => rw [hq] at hv; cases hv
        | some q =>
          rw [hq] at hv
          obtain ⟨hl, rfl⟩ := List.getElem?_eq_some_iff.1 hq
          simp at hl hv
          subst hv
          exact h2 j hl
      · simp
      · intro j h4 h5
        simp only [List.getElem_map, List.getElem_range]
        exact (h3 j h4).mono (Keeps.refl _ _) (fun _ h => h) (Ext.no m)
  | ptr i g j =>
    simp only [cellsAt] at hx
    split at hx
    · rename_i b hb
      cases hx
      obtain ⟨h1, h2, e, h3, h4, h5, h6⟩ := getB_ok h hb
      cases hr with
      | ptr m i k e' pl h7 h8 =>
        rw [h3] at h7; cases h7
        obtain ⟨q1, q2, q3, q4, cs, q5, q6⟩ := h6 pl h8
        refine ⟨pl.b, pl.o, cs, rfl, q5, ?_⟩
        cases hrow : b.row with
        | true => rw [hrow] at q6; exact q6.mono (Keeps.refl _ _) (fun _ h => h) (Ext.no m)
        | false => rw [hrow] at q6; exact q6
      | ptrOld m i g k e' ad h7 h8 =>
        rw [h3] at h7; cases h7
        omega
    · cases hx
  | _ => simp [cellsAt] at hx

theorem ldN_ok {xs : List AV} {k n : Nat} {ys : List AV} (h : ldN xs k n = some ys) : ys = (xs.drop k).take n ∧ ys.length = n ∧ (n = 0 ∨ k + n ≤ xs.length) := by
  unfold ldN at h
  cases hc : Nat.beq ((xs.drop k).take n).length n with
  | false => simp only [hc] at h; cases h
  | true =>
    simp only [hc, cond_true] at h
    cases h
    have := Nat.eq_of_beq_eq_true hc
    refine ⟨rfl, this, ?_⟩
    simp only [List.length_take, List.length_drop] at this
    omega
theorem isAggT_run {ty : TypeId} {q : Bool} (h : isAggT P ty = some q) (w : World) : (isAgg ty).run P w = .ok q w := by
  unfold isAggT at h
  unfold isAgg
  cases hu : P.underlying ty with
  | none => rw [hu] at h; cases h
  | some d =>
    rw [hu] at h
    rw [Sem.run_bind, run_underlying hu w]
    cases d <;> simp at h <;> subst h <;> rfl
theorem szT_run {ty : TypeId} {n : Nat} (h : szT P ty = some n) (w : World) : (sizeOf ty).run P w = .ok n w := by
  unfold szT at h
  cases hi : P.info? ty with
  | none => rw [hi] at h; cases h
  | some i => rw [hi] at h; cases h; simp [sizeOf, typeInfo, hi]
theorem range_sub {b o k n : Nat} {cs : List Value} (h : w.rangeAt b o cs) : w.rangeAt b (o + k) ((cs.drop k).take n) := by
  intro j v hv
  have hj : j < ((cs.drop k).take n).length := (List.getElem?_eq_some_iff.1 hv).1
  have hjn : j < n := by simp only [List.length_take] at hj; omega
  rw [List.getElem?_take_of_lt hjn, List.getElem?_drop] at hv
  rw [Nat.add_assoc]
  exact h (k + j) v hv
/-- reading a variable -/
theorem ld_ok {xs : List AV} {k : Nat} {ty : TypeId} {b o : Nat} {cs : List Value} (hr : w.rangeAt b o cs) (hx : RL w S m xs cs) (hl : ld P ty xs k = some v) :
    ∃ u, (loadVar ty ⟨b, o + k, none⟩).run P w = .ok u w ∧ R w S m v u := by
  unfold ld at hl
  split at hl
  · rename_i ha
    split at hl
    · rename_i n hn
      split at hl
      · rename_i l hl'
        cases hl
        obtain ⟨rfl, hlen, _⟩ := ldN_ok hl'
        have hrl : RL w S m ((xs.drop k).take n) ((cs.drop k).take n) := (hx.drop k).take n
        have hcl : (loadCells ⟨b, o + k, none⟩ n).run P w = .ok ((cs.drop k).take n).toArray w := by
          have h2 := run_loadCells_list (P := P) w ⟨b, o + k, none⟩ ((cs.drop k).take n) (fun j v hv => by rw [Addr.add_mid]; exact range_sub hr j v hv)
          rwa [← hrl.1, hlen] at h2
        refine ⟨.agg ((cs.drop k).take n).toArray, ?_, .agg _ _ _ hrl.1 hrl.2⟩
        simp [loadVar, isAggT_run ha, szT_run hn, hcl]
      · cases hl
    · cases hl
  · rename_i ha
    obtain ⟨u, hu, hru⟩ := hx.get hl
    refine ⟨u, ?_, hru⟩
    simp [loadVar, isAggT_run ha, hr k u hu]
  · cases hl

theorem load_ok (h : HS W0 O S0 m0 hp m S w) (hf : FrR w S m t a) {ty : TypeId} {x : Operand} {xs : List AV} {k : Nat} (hx : cellsAt hp (ev t x) = some (xs, k)) (hl : ld P ty xs k = some v) (ho : o.op = .load ty x) :
    Good P W0 O S0 m0 m S w (execOp a.eval o) v hp := by
  obtain ⟨b, of, cs, hu, hr, hrl⟩ := cellsAt_ok h hx (ev_ok hf x)
  obtain ⟨u, hrun, hv⟩ := ld_ok (P := P) hr hrl hl
  refine Good.same h (u := u) ?_ hv
  simp [execOp, ho, hu, Instr.loadAt, Instr.sureAddr, hrun]

theorem move_ok (h : HS W0 O S0 m0 hp m S w) (hf : FrR w S m t a) {x : Operand} (ho : o.op = .move x ∨ o.op = .assign x) : Good P W0 O S0 m0 m S w (execOp a.eval o) (ev t x) hp := by
  refine Good.same h (u := a.eval x) ?_ (ev_ok hf x)
  rcases ho with ho | ho <;> simp [execOp, ho]
theorem pick_ok (h : HS W0 O S0 m0 hp m S w) (hf : FrR w S m t a) {c x y : Operand} {q : Bool} (hc : ev t c = .p (.bool q)) (ho : o.op = .pick c x y) :
    Good P W0 O S0 m0 m S w (execOp a.eval o) (cond q (ev t x) (ev t y)) hp := by
  have hc' : a.eval c = .bool q := by
    have := ev_ok hf c
    rw [hc] at this
    exact isP_ok (x := .p (.bool q)) rfl this
  cases q with
  | true => exact Good.same h (u := a.eval x) (by simp [execOp, ho, hc', asBool]) (ev_ok hf x)
  | false => exact Good.same h (u := a.eval y) (by simp [execOp, ho, hc', asBool]) (ev_ok hf y)

theorem cells_ok {x : AV} {u : Value} (hr : R w S m x u) (hone : (cellsA x).all one = true) : RL w S m (cellsA x) u.cells.toList := by
  cases hr with
  | p m =>
    cases u with
    | agg cs => exact RL.pmap _ _ _ _
    | _ => exact .cons (.p _ _) .nil
  | top m => simp [cellsA, one] at hone
  | agg m xs ys h1 h2 => exact ⟨h1, h2⟩
  | tup m xs ys _ _ => simp [cellsA, one] at hone
  | emp m a => exact .cons (.emp _ _) .nil
  | lst0 m a c => exact .cons (.lst0 _ _ _) .nil
  | lst m n xs b o c f h0 h1 h2 h3 => exact .cons (.lst _ _ _ _ _ _ f h0 h1 h2 h3) .nil
  | lit m n xs b o f h1 h2 h3 => exact .cons (.lit _ _ _ _ _ f h1 h2 h3) .nil
  | ip m xs k b o f h1 h2 h3 => exact .cons (.ip _ _ _ _ _ f h1 h2 h3) .nil
  | ptr m i k e pl h1 h2 => exact .cons (.ptr _ _ _ _ _ h1 h2) .nil
  | ptrOld m i g k e ad h1 h2 => exact .cons (.ptrOld _ _ _ _ _ _ h1 h2) .nil
  | ref m i k n e pl c h1 h2 h3 h4 => exact .cons (.ref _ _ _ _ _ _ _ h1 h2 h3 h4) .nil
  | refNil m i e ad h1 h2 => exact .cons (.refNil _ _ _ _ h1 h2) .nil
  | refOld m i g k n e ad l c h1 h2 hn => exact .cons (.refOld _ _ _ _ _ _ _ _ _ h1 h2 hn) .nil
  | map m i e pl h1 h2 => exact .cons (.map _ _ _ _ h1 h2) .nil
  | mapOld m i g e b h1 h2 => exact .cons (.mapOld _ _ _ _ _ h1 h2) .nil
  | fn m f xs us ys vs h1 h2 h3 h4 => exact .cons (.fn _ _ _ _ _ _ h1 h2 h3 h4) .nil
  | ifc m ty x v h => exact .cons (.ifc _ _ _ _ h) .nil
theorem one_ok {x : AV} {u : Value} (hr : R w S m x u) (h1 : one x = true) : u.oneCell' = true := by
  cases hr <;> first | exact h1 | rfl | (simp [one] at h1)
theorem ones_ok {xs : List AV} {us : List Value} (hr : RL w S m xs us) (h1 : xs.all one = true) : ∀ u ∈ us, u.oneCell' = true := by
  intro u hu
  obtain ⟨j, hj, rfl⟩ := List.mem_iff_getElem.1 hu
  have hj' : j < xs.length := hr.1 ▸ hj
  exact one_ok (hr.2 j hj' hj) (List.all_eq_true.1 h1 _ (List.getElem_mem hj'))
theorem imm0_ok {x : AV} {u : Value} (hr : R w S m x u) (h1 : imm0 x = true) (m' : EM) : R w S m' x u := hr.noBlk m' (by cases x <;> simp_all [imm0, noBlk])
theorem imms_ok {xs : List AV} {us : List Value} (hr : RL w S m xs us) (h1 : xs.all imm0 = true) (m' : EM) : RL w S m' xs us :=
  ⟨hr.1, fun j h2 h3 => imm0_ok (hr.2 j h2 h3) (List.all_eq_true.1 h1 _ (List.getElem_mem h2)) m'⟩

/-- a box is made -/
theorem new_ok (h : HS W0 O S0 m0 hp m S w) {xs : List AV} {c : Array Value} {el : TypeId} {s : Sem Next} (hx : RL w S m xs c.toList)
    (hr : s.run P w = .ok (.value (.pointer (some ⟨w.heap.size, 0, none⟩))) (w.alloc (.cells c el))) :
    Good P W0 O S0 m0 m S w s (.ptr hp.length 0 0) (hp ++ [{ cells := xs, esz := 0, gen := 0, row := false, ro := false }]) := by
  obtain ⟨h1, h2, h3⟩ := h.alloc c el c.toList [] (by simp) { cells := xs, esz := 0, gen := 0, row := false, ro := false } rfl rfl hx
  have hp1 : R (w.alloc (.cells c el)) S (updM m hp.length ⟨some ⟨w.heap.size, 0, c.size, 0⟩, 0⟩) (.ptr hp.length 0 0) (.pointer (some ⟨w.heap.size, 0 + 0, none⟩)) :=
    R.ptr _ _ 0 ⟨some ⟨w.heap.size, 0, c.size, 0⟩, 0⟩ ⟨w.heap.size, 0, c.size, 0⟩ (updM_same _ _ _) rfl
  exact ⟨_, _, _, S, hr, hp1, h1, h2, fun _ h => h, h3⟩
theorem zeroT_run {ty : TypeId} {z : Value} (h : zeroT P ty = some z) (w : World) : (zeroValue ty).run P w = .ok z w := by
  unfold zeroT at h
  cases hi : P.info? ty with
  | none => rw [hi] at h; cases h
  | some i => rw [hi] at h; simp at h; simp [zeroValue, typeInfo, hi, h]
theorem cells_abs1 (z : Value) : RL w S m (cellsA (abs1 z)) z.cells.toList := by
  cases z with
  | agg cs => exact RL.pmap _ _ _ _
  | _ => exact .cons (.p _ _) .nil
theorem alloc_ok (h : HS W0 O S0 m0 hp m S w) {e : TypeId} {z : Value} (hz : zeroT P e = some z) (ho : o.op = .alloc e) :
    Good P W0 O S0 m0 m S w (execOp a.eval o) (.ptr hp.length 0 0) (hp ++ [{ cells := cellsA (abs1 z), esz := 0, gen := 0, row := false, ro := false }]) := by
  refine new_ok h (c := z.cells) (el := e) (cells_abs1 z) ?_
  simp [execOp, ho, Instr.alloc, zeroT_run hz, newVar, newRow]
theorem box_ok (h : HS W0 O S0 m0 hp m S w) (hf : FrR w S m t a) {e : TypeId} {x : Operand} (h1 : (cellsA (ev t x)).all one = true) (ho : o.op = .box e x) :
    Good P W0 O S0 m0 m S w (execOp a.eval o) (.ptr hp.length 0 0) (hp ++ [{ cells := cellsA (ev t x), esz := 0, gen := 0, row := false, ro := false }]) := by
  refine new_ok h (c := (a.eval x).cells) (el := e) (cells_ok (ev_ok hf x) h1) ?_
  simp [execOp, ho, Instr.box, newVar, newRow]
theorem getTup_ok {x y : AV} {u : Value} {i : Nat} (hr : R w S m x u) (h : getTup x i = some y) : ∃ ys z, u = .tuple ys ∧ ys[i]? = some z ∧ R w S m y z := by
  cases x with
  | tup xs =>
    cases hr with
    | tup m xs ys h1 h2 =>
      obtain ⟨z, hz, hrz⟩ := RL.get ⟨h1, h2⟩ (show xs[i]? = some y from h)
      exact ⟨ys.toArray, z, rfl, by simpa using hz, hrz⟩
  | _ => simp [getTup] at h
theorem extract_ok (h : HS W0 O S0 m0 hp m S w) (hf : FrR w S m t a) {x : Operand} {i : Nat} (hx : getTup (ev t x) i = some v) (ho : o.op = .extract x i) :
    Good P W0 O S0 m0 m S w (execOp a.eval o) v hp := by
  obtain ⟨ys, z, h1, h2, h3⟩ := getTup_ok (ev_ok hf x) hx
  refine Good.same h (u := z) ?_ h3
  simp [execOp, ho, h1, Instr.extract, h2]
theorem makeFunc_ok (h : HS W0 O S0 m0 hp m S w) (hf : FrR w S m t a) {f : Fn} {x y : Array Operand} (ho : o.op = .makeFunc f x y) :
    Good P W0 O S0 m0 m S w (execOp a.eval o) (.fn f (x.toList.map (ev t)) (y.toList.map (ev t))) hp := by
  refine Good.same h (u := .func f (x.toList.map a.eval).toArray (y.toList.map a.eval).toArray) ?_ ?_
  · simp only [execOp, ho, Instr.makeFunc, Sem.run_bind, Sem.run_pure, Result.andThen_ok]
    congr 3 <;> (apply Array.ext'; simp)
  · have h1 := evL_ok hf x.toList
    have h2 := evL_ok hf y.toList
    exact .fn _ _ _ _ _ _ h1.1 h1.2 h2.1 h2.2
theorem makeInterface_ok (h : HS W0 O S0 m0 hp m S w) (hf : FrR w S m t a) {ty : TypeId} {d : TypeDesc} {x : Operand} (hd : P.underlying ty = some d) (hn : ∀ ms, d ≠ .interface ms) (ho : o.op = .makeInterface ty x) :
    Good P W0 O S0 m0 m S w (execOp a.eval o) (.ifc ty (ev t x)) hp := by
  refine Good.same h (u := .iface ty (a.eval x)) ?_ (.ifc _ _ _ _ (ev_ok hf x))
  have : (Instr.makeInterface ty (a.eval x)).run P w = .ok (.iface ty (a.eval x)) w := by
    unfold Instr.makeInterface
    rw [Sem.run_bind, run_underlying hd w]
    cases d <;> first | rfl | exact absurd rfl (hn _)
  simp [execOp, ho, this]
/-- what is not nil is told so, whatever the type -/
theorem isNilOf_run {d : Option TypeDesc} {ty : TypeId} {x y : AV} {u v : Value} {q : Bool} (hd : P.underlying ty = d) (hq : isNilOf d x y = some q) (h1 : R w S m x u) (h2 : R w S m y v) (ox oy : Operand) :
    q = false ∧ (eqGuard .eql ty ox oy u v).run P w = .ok () w ∧ (eqGuard .neq ty ox oy u v).run P w = .ok () w ∧ (binOp .eql ty u v).run P w = .ok (.bool false) w ∧ (binOp .neq ty u v).run P w = .ok (.bool true) w := by
  have key : ∀ (u v : Value), (∀ (d : Nat) (w : World), (Op.equalIn (d + 1) ty u v).run P w = .ok false w) → (∀ w, (eqGuard .eql ty ox oy u v).run P w = .ok () w ∧ (eqGuard .neq ty ox oy u v).run P w = .ok () w) →
      binOp .eql ty u v = (do pure (.bool (← Op.equal ty u v))) → binOp .neq ty u v = (do pure (.bool (!(← Op.equal ty u v)))) →
      (eqGuard .eql ty ox oy u v).run P w = .ok () w ∧ (eqGuard .neq ty ox oy u v).run P w = .ok () w ∧ (binOp .eql ty u v).run P w = .ok (.bool false) w ∧ (binOp .neq ty u v).run P w = .ok (.bool true) w := by
    intro u v k1 k2 k3 k4
    have k5 : ∀ w, (Op.equal ty u v).run P w = .ok false w := fun w => k1 9999 w
    refine ⟨(k2 w).1, (k2 w).2, ?_, ?_⟩
    · rw [k3, Sem.run_bind, k5]; rfl
    · rw [k4, Sem.run_bind, k5]; rfl
  unfold isNilOf at hq
  split at hq
  · rename_i e
    have he : P.underlying ty = some (.pointer e) := hd
    split at hq
    · cases hq; cases h2
      cases h1 <;> exact ⟨rfl, key _ _ (fun d w => by simp only [Op.equalIn, Sem.run_bind, run_underlying he]; rfl) (fun w => ⟨rfl, rfl⟩) rfl rfl⟩
    · cases hq; cases h1
      cases h2 <;> exact ⟨rfl, key _ _ (fun d w => by simp only [Op.equalIn, Sem.run_bind, run_underlying he]; rfl) (fun w => ⟨rfl, rfl⟩) rfl rfl⟩
    · cases hq; cases h2
      cases h1; exact ⟨rfl, key _ _ (fun d w => by simp only [Op.equalIn, Sem.run_bind, run_underlying he]; rfl) (fun w => ⟨rfl, rfl⟩) rfl rfl⟩
    · cases hq
  · have he : P.underlying ty = some _ := hd
    split at hq
    · cases hq; cases h2
      cases h1; exact ⟨rfl, key _ _ (fun d w => by simp only [Op.equalIn, Sem.run_bind, run_underlying he]; rfl) (fun w => ⟨rfl, rfl⟩) rfl rfl⟩
    · cases hq; cases h1
      cases h2; exact ⟨rfl, key _ _ (fun d w => by simp only [Op.equalIn, Sem.run_bind, run_underlying he]; rfl) (fun w => ⟨rfl, rfl⟩) rfl rfl⟩
    · cases hq
  · have he : P.underlying ty = some _ := hd
    split at hq
    · cases hq; cases h2
      cases h1; exact ⟨rfl, key _ _ (fun d w => by simp only [Op.equalIn, Sem.run_bind, run_underlying he]; rfl) (fun w => ⟨rfl, rfl⟩) rfl rfl⟩
    · cases hq; cases h1
      cases h2; exact ⟨rfl, key _ _ (fun d w => by simp only [Op.equalIn, Sem.run_bind, run_underlying he]; rfl) (fun w => ⟨rfl, rfl⟩) rfl rfl⟩
    · cases hq
  · have he : P.underlying ty = some _ := hd
    split at hq
    · cases hq; cases h2
      cases h1; exact ⟨rfl, key _ _ (fun d w => by simp only [Op.equalIn, Sem.run_bind, run_underlying he]; rfl) (fun w => ⟨rfl, rfl⟩) rfl rfl⟩
    · cases hq; cases h1
      cases h2; exact ⟨rfl, key _ _ (fun d w => by simp only [Op.equalIn, Sem.run_bind, run_underlying he]; rfl) (fun w => ⟨rfl, rfl⟩) rfl rfl⟩
    · cases hq; cases h2
      cases h1; exact ⟨rfl, key _ _ (fun d w => by simp only [Op.equalIn, Sem.run_bind, run_underlying he]; rfl) (fun w => ⟨rfl, rfl⟩) rfl rfl⟩
    · cases hq; cases h1
      cases h2; exact ⟨rfl, key _ _ (fun d w => by simp only [Op.equalIn, Sem.run_bind, run_underlying he]; rfl) (fun w => ⟨rfl, rfl⟩) rfl rfl⟩
    · cases hq; cases h2
      cases h1 with
      | ref => exact ⟨rfl, key _ _ (fun d w => by simp only [Op.equalIn, Sem.run_bind, run_underlying he]; rfl) (fun w => ⟨rfl, rfl⟩) rfl rfl⟩
      | refOld m i g k n e' ad l c q1 q2 q3 =>
        obtain ⟨ad', rfl⟩ := Option.isSome_iff_exists.1 (q3 (by omega))
        exact ⟨rfl, key _ _ (fun d w => by simp only [Op.equalIn, Sem.run_bind, run_underlying he]; rfl) (fun w => ⟨rfl, rfl⟩) rfl rfl⟩
    · cases hq; cases h1
      cases h2 with
      | ref => exact ⟨rfl, key _ _ (fun d w => by simp only [Op.equalIn, Sem.run_bind, run_underlying he]; rfl) (fun w => ⟨rfl, rfl⟩) rfl rfl⟩
      | refOld m i g k n e' ad l c q1 q2 q3 =>
        obtain ⟨ad', rfl⟩ := Option.isSome_iff_exists.1 (q3 (by omega))
        exact ⟨rfl, key _ _ (fun d w => by simp only [Op.equalIn, Sem.run_bind, run_underlying he]; rfl) (fun w => ⟨rfl, rfl⟩) rfl rfl⟩
    · cases hq
  · cases hq
theorem run_equalIn_str (d : Nat) (t : TypeId) (a b : ByteArray) (h : P.underlying t = some .string) : (Op.equalIn (d + 1) t (.string a) (.string b)).run P w = .ok (a.data.toList == b.data.toList) w := by
  have e : (a == b) = (a.data.toList == b.data.toList) := by
    rcases a with ⟨x⟩
    rcases b with ⟨y⟩
    show (x == y) = (x.toList == y.toList)
    rw [Bool.eq_iff_iff]
    simp
  rw [← e]
  simp only [Op.equalIn, Sem.run_bind, run_underlying h]
  rfl
theorem run_equalIn_cpx (d : Nat) (t : TypeId) (j k : FloatKind) (a b a' b' : Nat) (h : P.underlying t = some (.complex j)) : (Op.equalIn (d + 1) t (.complex k a b) (.complex k a' b')).run P w = .ok (Op.floatEq k a a' && Op.floatEq k b b') w := by
  simp only [Op.equalIn, Sem.run_bind, run_underlying h, Result.andThen_ok, if_true]
  rfl
theorem run_part_cpx {e : TypeId} {j : FloatKind} (hu : P.underlying e = some (.complex j)) {xs : Array Value} {off : Nat} {v : Value} (hx : xs[off]? = some v) : (part e xs off).run P w = .ok v w := by
  simp [part, isAgg, run_underlying hu, hx]
theorem eqFs_run (d : Nat) {xs ys : List AV} {us vs : List Value} (h1 : RL w S m xs us) (h2 : RL w S m ys vs) : ∀ (fs : List Field) (q : Bool), eqFs P fs xs ys = some q → (Op.eqFields (d + 1) us.toArray vs.toArray fs).run P w = .ok q w
  | [], q, h => by simp only [eqFs] at h; cases h; simp [Op.eqFields]
  | f :: r, q, h => by
    have at1 : ∀ {zs : List AV} {ws : List Value} {z : Value}, RL w S m zs ws → zs[f.offset]? = some (.p z) → ws.toArray[f.offset]? = some z := by
      intro zs ws z hr hz
      obtain ⟨hlt, e⟩ := List.getElem?_eq_some_iff.1 hz
      have hlt2 : f.offset < ws.length := by rw [← hr.1]; exact hlt
      have := hr.2 f.offset hlt hlt2
      rw [e] at this
      have : ws[f.offset] = z := by cases this; rfl
      rw [List.getElem?_toArray, List.getElem?_eq_getElem hlt2, this]
    simp only [eqFs] at h
    cases hc : (f.name != "_") with
    | false => rw [hc] at h; cases h
    | true =>
      rw [hc, cond_true] at h
      have hn : f.name ≠ "_" := by simpa using hc
      split at h
      · rename_i k0 k a k' b q' e1 e2 e3 e4
        cases hk : (k == k') with
        | false => rw [hk] at h; cases h
        | true =>
          rw [hk] at h
          cases h
          have hkk : k = k' := by simpa using hk
          subst hkk
          have hpk : P.plainKey f.type = true := by simp [Program.plainKey, e1]
          have ih := eqFs_run d h1 h2 r q' e4
          simp only [Op.eqFields, hn, ne_eq, not_false_eq_true, if_true, Sem.run_bind, run_part_plain w hpk (at1 h1 e2), run_part_plain w hpk (at1 h2 e3), run_equalIn_int w d f.type k k0 a b e1, Result.andThen_ok]
          cases a == b with
          | true => simpa using ih
          | false => simp
      · rename_i a b q' e1 e2 e3 e4
        cases h
        have hpk : P.plainKey f.type = true := by simp [Program.plainKey, e1]
        have ih := eqFs_run d h1 h2 r q' e4
        simp only [Op.eqFields, hn, ne_eq, not_false_eq_true, if_true, Sem.run_bind, run_part_plain w hpk (at1 h1 e2), run_part_plain w hpk (at1 h2 e3), run_equalIn_bool' w d f.type a b e1, Result.andThen_ok]
        cases a == b with
        | true => simpa using ih
        | false => simp
      · rename_i a b q' e1 e2 e3 e4
        cases h
        have hpk : P.plainKey f.type = true := by simp [Program.plainKey, e1]
        have ih := eqFs_run d h1 h2 r q' e4
        simp only [Op.eqFields, hn, ne_eq, not_false_eq_true, if_true, Sem.run_bind, run_part_plain w hpk (at1 h1 e2), run_part_plain w hpk (at1 h2 e3), run_equalIn_str d f.type a b e1, Result.andThen_ok]
        cases a.data.toList == b.data.toList with
        | true => simpa using ih
        | false => simp
      · rename_i j k a b k' a' b' q' e1 e2 e3 e4
        cases hk : (k == k') with
        | false => rw [hk] at h; cases h
        | true =>
          rw [hk] at h
          cases h
          have hkk : k = k' := by simpa using hk
          subst hkk
          have ih := eqFs_run d h1 h2 r q' e4
          simp only [Op.eqFields, hn, ne_eq, not_false_eq_true, if_true, Sem.run_bind, run_part_cpx e1 (at1 h1 e2), run_part_cpx e1 (at1 h2 e3), run_equalIn_cpx d f.type j k a b a' b' e1, Result.andThen_ok]
          cases Op.floatEq k a a' && Op.floatEq k b b' with
          | true => simpa using ih
          | false => simp
      · cases h
theorem ldN_split {xs ys : List AV} {k n : Nat} (h : ldN xs k n = some ys) : ys = (xs.drop k).take n ∧ ys.length = n := by
  unfold ldN at h
  simp only at h
  cases hc : Nat.beq ((xs.drop k).take n).length n with
  | false => rw [hc] at h; cases h
  | true =>
    rw [hc] at h
    cases h
    exact ⟨rfl, Nat.eq_of_beq_eq_true hc⟩
theorem run_part_str {e : TypeId} {fs : Array Field} (hu : P.underlying e = some (.struct fs)) {k : Nat} (hk : szT P e = some k) {us : List Value} {off : Nat} : (part e us.toArray off).run P w = .ok (.agg ((us.drop off).take k).toArray) w := by
  unfold szT at hk
  split at hk
  · rename_i i hi
    cases hk
    have hx : us.toArray.extract off (off + i.size) = ((us.drop off).take i.size).toArray := by
      rw [List.extract_toArray, List.extract_eq_take_drop, Nat.add_sub_cancel_left]
    simp [part, isAgg, run_underlying hu, sizeOf, typeInfo, hi]
  · cases hk
theorem eqFields_and (d : Nat) {us vs : Array Value} {f : Field} {r : List Field} {b q : Bool} {u v : Value} (hn : f.name ≠ "_") (h1 : (part f.type us f.offset).run P w = .ok u w) (h2 : (part f.type vs f.offset).run P w = .ok v w)
    (hb : (Op.equalIn d f.type u v).run P w = .ok b w) (ih : (Op.eqFields d us vs r).run P w = .ok q w) : (Op.eqFields d us vs (f :: r)).run P w = .ok (b && q) w := by
  simp only [Op.eqFields, hn, ne_eq, not_false_eq_true, if_true, Sem.run_bind, h1, h2, hb, Result.andThen_ok]
  cases b with
  | true => simpa using ih
  | false => simp
theorem eqFs_one (d : Nat) {xs ys : List AV} {us vs : List Value} (h1 : RL w S m xs us) (h2 : RL w S m ys vs) {f : Field} {r : List Field} {b q : Bool} (h : eqFs P [f] xs ys = some b)
    (ih : (Op.eqFields (d + 1) us.toArray vs.toArray r).run P w = .ok q w) : (Op.eqFields (d + 1) us.toArray vs.toArray (f :: r)).run P w = .ok (b && q) w := by
  have at1 : ∀ {zs : List AV} {ws : List Value} {z : Value}, RL w S m zs ws → zs[f.offset]? = some (.p z) → ws.toArray[f.offset]? = some z := by
    intro zs ws z hr hz
    obtain ⟨hlt, e⟩ := List.getElem?_eq_some_iff.1 hz
    have hlt2 : f.offset < ws.length := by rw [← hr.1]; exact hlt
    have := hr.2 f.offset hlt hlt2
    rw [e] at this
    have : ws[f.offset] = z := by cases this; rfl
    rw [List.getElem?_toArray, List.getElem?_eq_getElem hlt2, this]
  simp only [eqFs] at h
  cases hc : (f.name != "_") with
  | false => rw [hc] at h; cases h
  | true =>
    rw [hc, cond_true] at h
    have hn : f.name ≠ "_" := by simpa using hc
    split at h
    · rename_i k0 k a k' b' q' e1 e2 e3 e4
      cases e4
      cases hk : (k == k') with
      | false => rw [hk] at h; cases h
      | true =>
        rw [hk] at h
        cases h
        have hkk : k = k' := by simpa using hk
        subst hkk
        have hpk : P.plainKey f.type = true := by simp [Program.plainKey, e1]
        rw [Bool.and_true]
        exact eqFields_and (d + 1) hn (run_part_plain w hpk (at1 h1 e2)) (run_part_plain w hpk (at1 h2 e3)) (run_equalIn_int w d f.type k k0 a b' e1) ih
    · rename_i a b' q' e1 e2 e3 e4
      cases e4
      cases h
      have hpk : P.plainKey f.type = true := by simp [Program.plainKey, e1]
      rw [Bool.and_true]
      exact eqFields_and (d + 1) hn (run_part_plain w hpk (at1 h1 e2)) (run_part_plain w hpk (at1 h2 e3)) (run_equalIn_bool' w d f.type a b' e1) ih
    · rename_i a b' q' e1 e2 e3 e4
      cases e4
      cases h
      have hpk : P.plainKey f.type = true := by simp [Program.plainKey, e1]
      rw [Bool.and_true]
      exact eqFields_and (d + 1) hn (run_part_plain w hpk (at1 h1 e2)) (run_part_plain w hpk (at1 h2 e3)) (run_equalIn_str d f.type a b' e1) ih
    · rename_i j k a b' k' a' b'' q' e1 e2 e3 e4
      cases e4
      cases hk : (k == k') with
      | false => rw [hk] at h; cases h
      | true =>
        rw [hk] at h
        cases h
        have hkk : k = k' := by simpa using hk
        subst hkk
        rw [Bool.and_true]
        exact eqFields_and (d + 1) hn (run_part_cpx e1 (at1 h1 e2)) (run_part_cpx e1 (at1 h2 e3)) (run_equalIn_cpx d f.type j k a b' a' b'' e1) ih
    · cases h
theorem eqFsN_run : ∀ (n d : Nat) {xs ys : List AV} {us vs : List Value} (_ : RL w S m xs us) (_ : RL w S m ys vs) (fs : List Field) (q : Bool), n ≤ d → eqFsN P n fs xs ys = some q → (Op.eqFields (d + 1) us.toArray vs.toArray fs).run P w = .ok q w
  | n, d, xs, ys, us, vs, h1, h2, [], q, _, h => by
    have : q = true := by cases n <;> (simp only [eqFsN] at h; cases h; rfl)
    subst this
    simp [Op.eqFields]
  | 0, d, xs, ys, us, vs, h1, h2, f :: r, q, _, h => by cases h
  | n + 1, d, xs, ys, us, vs, h1, h2, f :: r, q, hd, h => by
    simp only [eqFsN] at h
    cases hc : (f.name != "_") with
    | false => rw [hc] at h; cases h
    | true =>
      rw [hc, cond_true] at h
      have hn : f.name ≠ "_" := by simpa using hc
      split at h
      · cases h
      · rename_i q' hq'
        have ih := eqFsN_run n d h1 h2 r q' (by omega) hq'
        split at h
        · rename_i fs hfs
          cases hst : P.stoodInHeld f.type with
          | true => rw [hst] at h; cases h
          | false =>
            rw [hst, cond_false] at h
            split at h
            · rename_i k hk
              split at h
              · rename_i us' vs' hu hv
                split at h
                · rename_i b hb
                  cases h
                  obtain ⟨rfl, _⟩ := ldN_split hu
                  obtain ⟨rfl, _⟩ := ldN_split hv
                  obtain ⟨d', rfl⟩ : ∃ d', d = d' + 1 := ⟨d - 1, by omega⟩
                  have hf : P.fieldsOf f.type = fs := by simp [Program.fieldsOf, hfs]
                  have hsub := eqFsN_run n d' ((h1.drop f.offset).take k) ((h2.drop f.offset).take k) fs.toList b (by omega) hb
                  refine eqFields_and (d' + 1 + 1) hn (run_part_str hfs hk) (run_part_str hfs hk) ?_ ih
                  rw [run_equalIn_struct w (d' + 1) f.type _ _ (by rw [hf]; exact hfs) hst, hf]
                  exact hsub
                · cases h
              · cases h
            · cases h
        · split at h
          · rename_i b hb
            cases h
            exact eqFs_one d h1 h2 hb ih
          · cases h
theorem eqOf_run {ty : TypeId} {x y : AV} {u v : Value} {q : Bool} (hq : eqOf P ty x y = some q) (h1 : R w S m x u) (h2 : R w S m y v) (ox oy : Operand) :
    (eqGuard .eql ty ox oy u v).run P w = .ok () w ∧ (eqGuard .neq ty ox oy u v).run P w = .ok () w ∧ (binOp .eql ty u v).run P w = .ok (.bool q) w ∧ (binOp .neq ty u v).run P w = .ok (.bool (!q)) w := by
  unfold eqOf at hq
  split at hq
  · rename_i b hb
    cases hq
    obtain ⟨k0, k1, k2, k3, k4⟩ := isNilOf_run (P := P) rfl hb h1 h2 ox oy
    subst k0
    exact ⟨k1, k2, k3, k4⟩
  · unfold eqStr at hq
    split at hq
    · rename_i xs ys
      split at hq
      · rename_i fs hfs
        cases hc : (!(P.stoodInHeld ty) && !(P.eqGuardType P.depth ty)) with
        | false => rw [hc] at hq; cases hq
        | true =>
          rw [hc, cond_true] at hq
          rw [Bool.and_eq_true, Bool.not_eq_true', Bool.not_eq_true'] at hc
          cases h1 with
          | agg _ _ us e1 p1 =>
            cases h2 with
            | agg _ _ vs e2 p2 =>
              have hf : P.fieldsOf ty = fs := by simp [Program.fieldsOf, hfs]
              have hrun : (Op.equalIn 10000 ty (.agg us.toArray) (.agg vs.toArray)).run P w = .ok q w := by
                rw [run_equalIn_struct w 9999 ty us.toArray vs.toArray (by rw [hf]; exact hfs) hc.1, hf]
                split at hq
                · rename_i b hb
                  injection hq with hq
                  subst hq
                  exact eqFs_run 9998 ⟨e1, p1⟩ ⟨e2, p2⟩ fs.toList _ hb
                · exact eqFsN_run 40 9998 ⟨e1, p1⟩ ⟨e2, p2⟩ fs.toList q (by omega) hq
              refine ⟨run_eqGuard_agg w .eql ty ox oy _ _ hc.2, run_eqGuard_agg w .neq ty ox oy _ _ hc.2, ?_, ?_⟩
              · show (do pure (Value.bool (← Op.equal ty (.agg us.toArray) (.agg vs.toArray))) : Sem Value).run P w = _
                rw [Sem.run_bind]; unfold Op.equal Op.maxDepth; rw [hrun]; rfl
              · show (do pure (Value.bool (!(← Op.equal ty (.agg us.toArray) (.agg vs.toArray)))) : Sem Value).run P w = _
                rw [Sem.run_bind]; unfold Op.equal Op.maxDepth; rw [hrun]; rfl
      · cases hq
    · cases hq
theorem eql_ok (h : HS W0 O S0 m0 hp m S w) (hf : FrR w S m t a) {ty z : TypeId} {x y : Operand} {q : Bool} (hq : eqOf P ty (ev t x) (ev t y) = some q) (ho : o.op = .binOp .eql ty x y z) :
    Good P W0 O S0 m0 m S w (execOp a.eval o) (.p (.bool q)) hp := by
  obtain ⟨h1, h2, h3, h4⟩ := eqOf_run hq (ev_ok hf x) (ev_ok hf y) x y
  refine Good.same h (u := .bool q) ?_ (.p _ _)
  simp [execOp, ho, h1, h3]
theorem neq_ok (h : HS W0 O S0 m0 hp m S w) (hf : FrR w S m t a) {ty z : TypeId} {x y : Operand} {q : Bool} (hq : eqOf P ty (ev t x) (ev t y) = some q) (ho : o.op = .binOp .neq ty x y z) :
    Good P W0 O S0 m0 m S w (execOp a.eval o) (.p (.bool (!q))) hp := by
  obtain ⟨h1, h2, h3, h4⟩ := eqOf_run hq (ev_ok hf x) (ev_ok hf y) x y
  refine Good.same h (u := .bool (!q)) ?_ (.p _ _)
  simp [execOp, ho, h2, h4]

theorem natOf_ok {x : AV} {u : Value} {n : Nat} (hx : natOf x = some n) (hr : R w S m x u) : ∃ k, u = .int k (n : Int) := by
  unfold natOf at hx
  split at hx
  · cases hx; cases hr; exact ⟨_, rfl⟩
  · cases hx
/-- a pointer moved on -/
theorem ptr_move {x y : AV} {u : Value} {off : Nat} (hr : R w S m x u) (hy : (∃ i g k, x = .ptr i g k ∧ y = .ptr i g (k + off)) ∨ (∃ xs k, x = .ip xs k ∧ y = .ip xs (k + off))) :
    ∃ ad : Addr, u = .pointer (some ad) ∧ R w S m y (.pointer (some (ad.add off))) := by
  rcases hy with ⟨i, g, k, rfl, rfl⟩ | ⟨xs, k, rfl, rfl⟩
  · cases hr with
    | ptr m i k e pl h1 h2 =>
      refine ⟨_, rfl, ?_⟩
      rw [Addr.add_mid, Nat.add_assoc]
      exact .ptr _ _ _ _ _ h1 h2
    | ptrOld m i g k e ad h1 h2 => exact ⟨_, rfl, .ptrOld _ _ _ _ _ _ h1 h2⟩
  · cases hr with
    | ip m xs k b o f h1 h2 h3 =>
      refine ⟨_, rfl, ?_⟩
      rw [Addr.add_mid, Nat.add_assoc]
      exact .ip _ _ _ _ _ f h1 h2 h3
theorem fieldAddr_ok (h : HS W0 O S0 m0 hp m S w) (hf : FrR w S m t a) {s : TypeId} {fields : Array Field} {fd : Field} {n f : Nat} {x : Operand} (hs : P.underlying s = some (.struct fields)) (hfd : fields[f]? = some fd)
    (hn : szT P fd.type = some n) (hn0 : n ≠ 0)
    (hy : (∃ i g k, ev t x = .ptr i g k ∧ v = .ptr i g (k + fd.offset)) ∨ (∃ xs k, ev t x = .ip xs k ∧ v = .ip xs (k + fd.offset))) (ho : o.op = .fieldAddr s x f) :
    Good P W0 O S0 m0 m S w (execOp a.eval o) v hp := by
  obtain ⟨ad, hu, hr⟩ := ptr_move (ev_ok hf x) hy
  refine Good.same h (u := .pointer (some (ad.add fd.offset))) ?_ hr
  simp [execOp, ho, Instr.fieldAt, run_underlying hs, hfd, hu, Instr.sureAddr, fieldPlace, szT_run hn, hn0]
theorem part_ok {xs : List AV} {cs : List Value} {ty : TypeId} {k : Nat} (hx : RL w S m xs cs) (hl : ld P ty xs k = some v) : ∃ u, (part ty cs.toArray k).run P w = .ok u w ∧ R w S m v u := by
  unfold ld at hl
  split at hl
  · rename_i ha
    split at hl
    · rename_i n hn
      split at hl
      · rename_i l hl'
        cases hl
        obtain ⟨rfl, hlen, _⟩ := ldN_ok hl'
        have hrl : RL w S m ((xs.drop k).take n) ((cs.drop k).take n) := (hx.drop k).take n
        refine ⟨.agg ((cs.drop k).take n).toArray, ?_, .agg _ _ _ hrl.1 hrl.2⟩
        simp [part, isAggT_run ha, szT_run hn, List.extract_eq_take_drop]
      · cases hl
    · cases hl
  · rename_i ha
    obtain ⟨u, hu, hru⟩ := hx.get hl
    refine ⟨u, ?_, hru⟩
    simp [part, isAggT_run ha, hu]
  · cases hl
theorem field_ok (h : HS W0 O S0 m0 hp m S w) (hf : FrR w S m t a) {s : TypeId} {fields : Array Field} {fd : Field} {f : Nat} {x : Operand} {xs : List AV} (hx : ev t x = .agg xs) (hs : P.underlying s = some (.struct fields)) (hfd : fields[f]? = some fd)
    (hl : ld P fd.type xs fd.offset = some v) (ho : o.op = .field s x f) : Good P W0 O S0 m0 m S w (execOp a.eval o) v hp := by
  have hr := ev_ok hf x
  rw [hx] at hr
  generalize hu : a.eval x = u at hr
  cases hr with
  | agg m xs ys h1 h2 =>
    obtain ⟨u, hrun, hru⟩ := part_ok (P := P) (cs := ys) ⟨h1, h2⟩ hl
    refine Good.same h (u := u) ?_ hru
    simp [execOp, ho, Instr.field, run_underlying hs, hfd, hu, asAgg, hrun]
theorem nilCheck_ok (h : HS W0 O S0 m0 hp m S w) (hf : FrR w S m t a) {x : Operand} (hx : (∃ i g k, ev t x = .ptr i g k) ∨ (∃ xs k, ev t x = .ip xs k) ∨ (∃ f b c, ev t x = .fn (.func f) b c) ∨ (∃ ty y, ev t x = .ifc ty y)) (ho : o.op = .nilCheck x) :
    Good P W0 O S0 m0 m S w (execOp a.eval o) (ev t x) hp := by
  have hr := ev_ok hf x
  refine Good.same h (u := a.eval x) ?_ hr
  generalize hu : a.eval x = u at hr
  rcases hx with ⟨i, g, k, e⟩ | ⟨xs, k, e⟩ | ⟨f, b, c, e⟩ | ⟨ty, y, e⟩ <;> rw [e] at hr <;> cases hr <;> simp [execOp, ho, hu]
end
end Go.Vm
