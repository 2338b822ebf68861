/- Each operation of the virtual memory is the model's: what makes and writes blocks. -/
import Derived.Test.YtlemialjfnbchaaGreatVmO

namespace Go.Vm
open Go

section
variable {P : Program} {W0 : World} {O S0 : Nat → Prop} {m0 : EM} {hp hp' : List Blk} {m : EM} {S : Nat → Prop} {w : World} {a : Act} {t : Tr} {o : Oper} {v : AV}

/-! ### build -/
theorem fold_get : ∀ (vs : List Value) (k off : Nat) (cs : Array Value) (q : Nat), off + k + vs.length ≤ cs.size →
    ((vs.zipIdx k).foldl (fun (cs : Array Value) (x : Value × Nat) => cs.setIfInBounds (off + x.2) x.1) cs)[q]? = if off + k ≤ q ∧ q < off + k + vs.length then vs[q - (off + k)]? else cs[q]?
  | [], k, off, cs, q, h => by
    rw [if_neg (by simp only [List.length_nil]; omega)]; rfl
  | v :: vs, k, off, cs, q, h => by
    simp only [List.length_cons] at h
    simp only [List.zipIdx_cons, List.foldl_cons]
    rw [fold_get vs (k + 1) off (cs.setIfInBounds (off + k) v) q (by simp only [Array.size_setIfInBounds]; omega)]
    simp only [List.length_cons]
    by_cases c1 : q = off + k
    · subst c1
      rw [if_neg (by omega), if_pos (by omega), Array.getElem?_setIfInBounds, if_pos rfl, if_pos (by omega)]
      simp
    · by_cases c2 : off + k + 1 ≤ q ∧ q < off + k + (vs.length + 1)
      · rw [if_pos (by omega), if_pos (by omega)]
        obtain ⟨r, hr⟩ : ∃ r, q - (off + k) = r + 1 := ⟨q - (off + k) - 1, by omega⟩
        have hr2 : q - (off + (k + 1)) = r := by omega
        rw [hr, hr2, List.getElem?_cons_succ]
      · rw [if_neg (by omega), if_neg (by omega), Array.getElem?_setIfInBounds, if_neg (by omega)]
theorem fold_splice (vs : List Value) (k off : Nat) (cs : Array Value) (h : off + k + vs.length ≤ cs.size) :
    ((vs.zipIdx k).foldl (fun (cs : Array Value) (x : Value × Nat) => cs.setIfInBounds (off + x.2) x.1) cs).toList = cs.toList.take (off + k) ++ vs ++ cs.toList.drop (off + k + vs.length) := by
  apply List.ext_getElem?
  intro q
  rw [Array.getElem?_toList, fold_get vs k off cs q h]
  have hl : cs.toList.length = cs.size := by simp
  have e2 : (cs.toList.take (off + k)).length = off + k := by rw [List.length_take]; omega
  by_cases c1 : q < off + k
  · rw [if_neg (by omega), List.append_assoc, List.getElem?_append_left (by omega), List.getElem?_take_of_lt c1, Array.getElem?_toList]
  · by_cases c2 : q < off + k + vs.length
    · rw [if_pos (by omega), List.getElem?_append_left (by rw [List.length_append]; omega), List.getElem?_append_right (by omega), e2]
    · rw [if_neg (by omega), List.getElem?_append_right (by rw [List.length_append]; omega), List.length_append, e2, List.getElem?_drop, Array.getElem?_toList]
      congr 1
      omega
theorem fill_splice (cs : Array Value) (u : Value) (off : Nat) (h : off + u.cells.size ≤ cs.size) :
    (u.cells.zipIdx.foldl (fun cs (x : Value × Nat) => cs.setIfInBounds (off + x.2) x.1) cs).toList = cs.toList.take off ++ u.cells.toList ++ cs.toList.drop (off + u.cells.size) := by
  have := fold_splice u.cells.toList 0 off cs (by simpa using h)
  simp only [Nat.add_zero, Array.length_toList] at this
  rw [← this, ← Array.foldl_toList, Array.toList_zipIdx]
theorem fillA_ok (place : Nat → Option (Nat × Nat)) : ∀ (idx : List Nat) (vs : List AV) (us : List Value) (cells : List AV) (cs : Array Value) (xs : List AV), idx.length = vs.length → RL w S m vs us → RL w S m cells cs.toList →
    fillA place cells (idx.zip vs) = some xs → ∃ cs' : Array Value, Instr.fill place cs (idx.zip us) = some cs' ∧ RL w S m xs cs'.toList
  | [], vs, us, cells, cs, xs, hl, hv, hc, h => by
    simp [fillA] at h
    subst h
    exact ⟨cs, by simp [Instr.fill], hc⟩
  | i :: idx, vs, us, cells, cs, xs, hl, hv, hc, h => by
    rcases hv.cases with ⟨rfl, _⟩ | ⟨x, vs', u, us', rfl, rfl, h1, h2⟩
    · simp at hl
    · simp only [List.zip_cons_cons, fillA] at h
      split at h
      · cases h
      · rename_i off size hp1
        cases hq : (Nat.beq (cellsA x).length size && Nat.ble (off + (cellsA x).length) cells.length && (cellsA x).all one) with
        | false => rw [hq] at h; cases h
        | true =>
          rw [hq, cond_true] at h
          simp only [Bool.and_eq_true] at hq
          obtain ⟨⟨k1, k2⟩, k3⟩ := hq
          have e1 := Nat.eq_of_beq_eq_true k1
          have e2 := Nat.le_of_ble_eq_true k2
          have hcx := cells_ok h1 k3
          have hcl : (cellsA x).length = u.cells.size := by rw [hcx.1]; simp
          have hlen : cells.length = cs.size := by rw [hc.1]; simp
          have hsp := fill_splice cs u off (by omega)
          have hnew : RL w S m (splice cells off (cellsA x)) (u.cells.zipIdx.foldl (fun cs (x : Value × Nat) => cs.setIfInBounds (off + x.2) x.1) cs).toList := by
            rw [hsp]
            unfold splice
            rw [hcl]
            exact ((hc.take off).append hcx).append (hc.drop _)
          obtain ⟨cs', g1, g2⟩ := fillA_ok place idx vs' us' _ _ xs (by simpa using hl) h2 hnew h
          refine ⟨cs', ?_, g2⟩
          simp only [List.zip_cons_cons, Instr.fill, hp1]
          rw [if_neg (by simp; omega)]
          exact g1

theorem mapM_run {α β : Type} (f : α → Sem β) (g : α → β) : ∀ (l : List α), (∀ x ∈ l, ∀ w, (f x).run P w = .ok (g x) w) → ∀ w, (l.mapM f).run P w = .ok (l.map g) w
  | [], _, w => by simp
  | x :: l, h, w => by
    have ih := mapM_run f g l (fun y hy => h y (by simp [hy]))
    simp [List.mapM_cons, h x (by simp) w, ih]
theorem mapM_arr {α β : Type} (f : α → Sem β) (g : α → β) (l : Array α) (h : ∀ x ∈ l.toList, ∀ w, (f x).run P w = .ok (g x) w) (w : World) : (l.mapM f).run P w = .ok (l.map g) w := by
  rw [Array.mapM_eq_mapM_toList]
  simp only [Sem.run_map, mapM_run f g l.toList h w, Result.andThen_ok]
  congr 1
  apply Array.ext'
  simp

theorem zipmap {α β γ : Type} (l : List (α × β)) (f : β → γ) : (l.map fun (i, x) => (i, f x)) = (l.map (·.1)).zip (l.map fun q => f q.2) := by
  induction l with
  | nil => rfl
  | cons x l ih => simp [ih]
theorem evP_ok (hf : FrR w S m t a) (l : List (Nat × Operand)) : RL w S m (l.map fun q => ev t q.2) (l.map fun q => a.eval q.2) := by
  have := evL_ok hf (l.map (·.2))
  simpa [List.map_map, Function.comp_def] using this

theorem build_struct_ok (h : HS W0 O S0 m0 hp m S w) (hf : FrR w S m t a) {ty : TypeId} {z : Value} {fields : Array Field} {parts : Array (Nat × Operand)} {cs : List AV} (hz : zeroT P ty = some z) (hu : P.underlying ty = some (.struct fields))
    (hfill : fillA (fun i => match fields[i]? with | some (f : Field) => (match szT P (Field.type f) with | some n => some (f.offset, n) | none => none) | none => none) (cellsA (abs1 z)) (parts.toList.map fun (i, x) => (i, ev t x)) = some cs)
    (hall : (fields.toList.all fun (f : Field) => (szT P f.type).isSome) = true) (ho : o.op = .build ty parts) :
    Good P W0 O S0 m0 m S w (execOp a.eval o) (.agg cs) hp := by
  have hmap : ∀ w, (fields.mapM fun (f : Field) => do pure (f.offset, ← sizeOf f.type)).run P w = .ok (fields.map fun (f : Field) => (f.offset, (szT P f.type).getD 0)) w := by
    intro w
    refine mapM_arr _ _ fields (fun (f : Field) hfm w => ?_) w
    obtain ⟨n, hn⟩ := Option.isSome_iff_exists.1 (List.all_eq_true.1 hall f hfm)
    simp [szT_run hn, hn]
  rw [zipmap] at hfill
  obtain ⟨cs', h1, h2⟩ := fillA_ok _ _ _ _ _ z.cells _ (by simp) (evP_ok hf parts.toList) (cells_abs1 z) hfill
  have hpl : (fun (i : Nat) => match fields[i]? with | some (f : Field) => (match szT P (Field.type f) with | some n => some (f.offset, n) | none => none) | none => none) = fun i => (fields.map fun (f : Field) => (f.offset, (szT P f.type).getD 0))[i]? := by
    funext i
    rw [Array.getElem?_map]
    cases hi : fields[i]? with
    | none => rfl
    | some f =>
      have hfm : f ∈ fields.toList := by simpa using Array.mem_of_getElem? hi
      obtain ⟨n, hn⟩ := Option.isSome_iff_exists.1 (List.all_eq_true.1 hall f hfm)
      simp [hn]
  rw [hpl, ← zipmap] at h1
  refine Good.same h (u := .agg cs') ?_ (by have := R.agg m cs cs'.toList h2.1 h2.2; simpa using this)
  have hpt : (parts.map fun (i, x) => (i, a.eval x)).toList = parts.toList.map fun (i, x) => (i, a.eval x) := by simp
  have hb : (Instr.build ty (parts.map fun (i, x) => (i, a.eval x))).run P w = .ok (.agg cs') w := by
    unfold Instr.build
    simp only [Sem.run_bind, zeroT_run hz, Result.andThen_ok, run_underlying hu, hmap, hpt, h1, Sem.run_pure]
  simp only [execOp, ho, Sem.run_bind, hb, Result.andThen_ok, Sem.run_pure]
theorem build_array_ok (h : HS W0 O S0 m0 hp m S w) (hf : FrR w S m t a) {ty e : TypeId} {z : Value} {n sz : Nat} {parts : Array (Nat × Operand)} {cs : List AV} (hz : zeroT P ty = some z) (hu : P.underlying ty = some (.array n e)) (hsz : szT P e = some sz)
    (hfill : fillA (fun i => some (i * sz, sz)) (cellsA (abs1 z)) (parts.toList.map fun (i, x) => (i, ev t x)) = some cs) (ho : o.op = .build ty parts) :
    Good P W0 O S0 m0 m S w (execOp a.eval o) (.agg cs) hp := by
  rw [zipmap] at hfill
  obtain ⟨cs', h1, h2⟩ := fillA_ok _ _ _ _ _ z.cells _ (by simp) (evP_ok hf parts.toList) (cells_abs1 z) hfill
  rw [← zipmap] at h1
  refine Good.same h (u := .agg cs') ?_ (by have := R.agg m cs cs'.toList h2.1 h2.2; simpa using this)
  have hpt : (parts.map fun (i, x) => (i, a.eval x)).toList = parts.toList.map fun (i, x) => (i, a.eval x) := by simp
  have hb : (Instr.build ty (parts.map fun (i, x) => (i, a.eval x))).run P w = .ok (.agg cs') w := by
    unfold Instr.build
    simp only [Sem.run_bind, zeroT_run hz, Result.andThen_ok, run_underlying hu, szT_run hsz, hpt, h1, Sem.run_pure]
  simp only [execOp, ho, Sem.run_bind, hb, Result.andThen_ok, Sem.run_pure]

/-! ### what stays -/
/-- what was there stays so, more blocks are left as they are -/
def Frz (W0 : World) (O S0 : Nat → Prop) (m0 : EM) (hp' : List Blk) (m : EM) (S : Nat → Prop) (w : World) (P1 : (Nat → Prop) → Prop) : Prop :=
  ∃ S', HS W0 O S0 m0 hp' m S' w ∧ (∀ c, S c → S' c) ∧ P1 S'
theorem frz_lst {i k n g ez : Nat} {cells cs : List AV} {u : Value} {e : Emb} (h3 : m i = some e) (h4 : e.gen = g) (h5 : e.pl = none → cells = []) (hl : ldN cells k (n * ez) = some cs) (hr : R w S m (.ref i g k n) u) {S' : Nat → Prop} (_k2 : ∀ c, S c → S' c) (k3 : ∀ e pl, m i = some e → e.pl = some pl → S' pl.b)
    (h6 : ∀ pl, e.pl = some pl → pl.e = ez ∧ ∃ vs, w.rangeAt pl.b pl.o vs ∧ RL w S' noEM cells vs) : R w S' m (.lst n cs) u := by
  obtain ⟨rfl, hlen, _⟩ := ldN_ok hl
  cases hr with
  | ref m i k n e' pl c q1 q2 q3 q4 =>
    rw [h3] at q1; cases q1
    obtain ⟨r1, vs, r5, r6⟩ := h6 pl q2
    have hx : RL w S' noEM ((cells.drop k).take (n * ez)) ((vs.drop k).take (n * ez)) := (r6.drop k).take _
    have hrg : w.rangeAt pl.b (pl.o + k) ((vs.drop k).take (n * ez)) := range_sub r5
    refine .lst m n _ pl.b (pl.o + k) c (fun j => ((vs.drop k).take (n * ez)).getD j undef) q3 (k3 e pl h3 q2) ?_ ?_
    · intro j hj
      have hj' : j < ((vs.drop k).take (n * ez)).length := hx.1 ▸ hj
      have := hrg j _ (List.getElem?_eq_getElem hj')
      rw [this]
      simp [List.getD, List.getElem?_eq_getElem hj']
    · intro j hj
      have hj' : j < ((vs.drop k).take (n * ez)).length := hx.1 ▸ hj
      have h9 := hx.2 j hj hj'
      simpa [List.getD, List.getElem?_eq_getElem hj'] using h9
  | refNil m i e' ad q1 q2 =>
    rw [h3] at q1; cases q1
    have hc := h5 q2
    have : ((cells.drop 0).take (0 * ez)) = [] := by simp
    rw [this]
    exact .lst0 _ _ _
  | refOld m i g k n e' ad l c q1 q2 => rw [h3] at q1; cases q1; omega
theorem lit_lst {n : Nat} {xs : List AV} {u : Value} (hr : R w S m (.lit n xs) u) : R w S m (.lst n xs) u := by
  cases hr with
  | lit m n xs b o f h1 h2 h3 => exact .lst _ _ _ _ _ _ f (Nat.le_refl _) h1 h2 h3
end
/-- what freezes keeps what stands for what -/
def FrzOk (f : List Blk → AV → Option (AV × List Blk)) : Prop :=
  ∀ {W0 : World} {O S0 : Nat → Prop} {m0 : EM} {hp hp' : List Blk} {m : EM} {S : Nat → Prop} {w : World} {x y : AV} {u : Value}, HS W0 O S0 m0 hp m S w → f hp x = some (y, hp') → R w S m x u →
    ∃ S', HS W0 O S0 m0 hp' m S' w ∧ (∀ c, S c → S' c) ∧ R w S' m y u
def FrzLOk (f : List Blk → List AV → Option (List AV × List Blk)) : Prop :=
  ∀ {W0 : World} {O S0 : Nat → Prop} {m0 : EM} {hp hp' : List Blk} {m : EM} {S : Nat → Prop} {w : World} {xs ys : List AV} {us : List Value}, HS W0 O S0 m0 hp m S w → f hp xs = some (ys, hp') → RL w S m xs us →
    ∃ S', HS W0 O S0 m0 hp' m S' w ∧ (∀ c, S c → S' c) ∧ RL w S' m ys us
theorem frzL_ok {f : List Blk → AV → Option (AV × List Blk)} (hf : FrzOk f) : FrzLOk (frzL f) := by
  intro W0 O S0 m0 hp hp' m S w xs
  induction xs generalizing hp S with
  | nil =>
    intro ys us h hx hr
    simp [frzL] at hx
    obtain ⟨rfl, rfl⟩ := hx
    exact ⟨S, h, fun _ h => h, hr⟩
  | cons x xs ih =>
    intro ys us h hx hr
    rcases hr.cases with ⟨e, _⟩ | ⟨_, _, u, us', e, rfl, h1, h2⟩
    · cases e
    · cases e
      simp only [frzL] at hx
      split at hx
      · rename_i y hp1 hy
        split at hx
        · rename_i l hp2 hl
          cases hx
          obtain ⟨S1, k1, k2, k3⟩ := hf h hy h1
          obtain ⟨S2, k4, k5, k6⟩ := ih k1 hl (h2.mono (Keeps.refl _ _) k2 (Ext.refl _))
          exact ⟨S2, k4, fun c hc => k5 c (k2 c hc), .cons (k3.mono (Keeps.refl _ _) k5 (Ext.refl _)) k6⟩
        · cases hx
      · cases hx
theorem frzRow_ok {fz : List Blk → List AV → Option (List AV × List Blk)} (hf : FrzLOk fz) {W0 : World} {O S0 : Nat → Prop} {m0 : EM} {hp hp' : List Blk} {m : EM} {S : Nat → Prop} {w : World} {i g k n : Nat} {y : AV} {u : Value}
    (h : HS W0 O S0 m0 hp m S w) (hx : frzRow fz hp i g k n = some (y, hp')) (hr : R w S m (.ref i g k n) u) : ∃ S', HS W0 O S0 m0 hp' m S' w ∧ (∀ c, S c → S' c) ∧ R w S' m y u := by
  unfold frzRow at hx
  split at hx
  · rename_i b hb
    obtain ⟨h1, h2, e, h3, h4, h5, h6⟩ := getB_ok h hb
    cases hrow : b.row with
    | true =>
      rw [hrow, cond_true] at hx
      split at hx
      · rename_i cs hl
        cases hx
        obtain ⟨S', k1, k2, k3⟩ := h.freeze h1
        rw [hrow] at k1
        refine ⟨S', k1, k2, frz_lst h3 h4 h5 hl hr k2 k3 (fun pl hpl => ?_)⟩
        obtain ⟨r1, r2, r3, r4, vs, r5, r6⟩ := h6 pl hpl
        rw [hrow, cond_true] at r6
        exact ⟨r1, vs, r5, r6.mono (Keeps.refl _ _) k2 (Ext.refl _)⟩
      · cases hx
    | false =>
      rw [hrow, cond_false] at hx
      split at hx
      · rename_i cs' hp1 hfz
        split at hx
        · rename_i cs b1 hl hb1
          cases hq : cs'.all imm0 with
          | false => rw [hq] at hx; cases hx
          | true =>
            rw [hq, cond_true] at hx
            cases hx
            -- the cells, told
            have hcell : ∃ S1, HS W0 O S0 m0 hp1 m S1 w ∧ (∀ c, S c → S1 c) ∧ (e.pl = none → cs' = []) ∧ ∀ pl, e.pl = some pl → pl.e = b.esz ∧ ∃ vs, w.rangeAt pl.b pl.o vs ∧ RL w S1 noEM cs' vs := by
              cases hpl : e.pl with
              | none =>
                have hb0 := h5 hpl
                rw [hb0] at hfz
                obtain ⟨S1, k1, k2, k3⟩ := hf h hfz (us := []) .nil
                exact ⟨S1, k1, k2, fun _ => List.eq_nil_of_length_eq_zero (by rw [k3.1]; rfl), fun pl q => by cases q⟩
              | some pl =>
                obtain ⟨r1, r2, r3, r4, vs, r5, r6⟩ := h6 pl hpl
                rw [hrow, cond_false] at r6
                obtain ⟨S1, k1, k2, k3⟩ := hf h hfz r6
                refine ⟨S1, k1, k2, fun q => by (cases q), fun pl' q => ?_⟩
                cases q
                exact ⟨r1, vs, r5, imms_ok k3 hq noEM⟩
            obtain ⟨S1, k1, k2, k3, k4⟩ := hcell
            obtain ⟨g1, g2, e', g3, g4, g5, g6⟩ := getB_ok k1 hb1
            rw [h3] at g3; cases g3
            obtain ⟨S', q1, q2, q3⟩ := k1.freeze g1
            refine ⟨S', q1, fun c hc => q2 c (k2 c hc), frz_lst h3 h4 k3 hl hr (fun c hc => q2 c (k2 c hc)) q3 (fun pl hpl => ?_)⟩
            obtain ⟨r2, vs, r3, r4⟩ := k4 pl hpl
            exact ⟨r2, vs, r3, r4.mono (Keeps.refl _ _) q2 (Ext.refl _)⟩
        · cases hx
      · cases hx
  · cases hx
theorem frzV_ok {fz : List Blk → List AV → Option (List AV × List Blk)} (hf : FrzLOk fz) : FrzOk (frzV fz) := by
  intro W0 O S0 m0 hp hp' m S w x y u h hx hr
  unfold frzV at hx
  split at hx
  · exact frzRow_ok hf h hx hr
  · cases hx
    exact ⟨S, h, fun _ h => h, lit_lst hr⟩
  · cases hx
    exact ⟨S, h, fun _ h => h, hr⟩
theorem frz0_ok : FrzOk frz0 := by
  intro W0 O S0 m0 hp hp' m S w x y u h hx hr
  exact frzV_ok (fz := fun _ _ => none) (fun _ hx _ => by cases hx) h hx hr
theorem frz1_ok : FrzOk frz1 := by
  intro W0 O S0 m0 hp hp' m S w x y u h hx hr
  exact frzV_ok (frzL_ok frz0_ok) h hx hr
theorem frz2_ok : FrzOk frz2 := by
  intro W0 O S0 m0 hp hp' m S w x y u h hx hr
  exact frzV_ok (frzL_ok frz1_ok) h hx hr
theorem frz_ok {W0 : World} {O S0 : Nat → Prop} {m0 : EM} {hp hp' : List Blk} {m : EM} {S : Nat → Prop} {w : World} (h : HS W0 O S0 m0 hp m S w) {x y : AV} {u : Value} (hx : frz hp x = some (y, hp')) (hr : R w S m x u) :
    ∃ S', HS W0 O S0 m0 hp' m S' w ∧ (∀ c, S c → S' c) ∧ R w S' m y u := by
  unfold frz at hx
  split at hx
  · split at hx
    · rename_i xs l hp1 hl
      cases hx
      cases hr with
      | agg m xs us h1 h2 =>
        obtain ⟨S', k1, k2, k3⟩ := frzL_ok frz2_ok h hl ⟨h1, h2⟩
        exact ⟨S', k1, k2, .agg _ _ _ k3.1 k3.2⟩
    · cases hx
  · split at hx
    · rename_i xs l hp1 hl
      cases hx
      cases hr with
      | tup m xs us h1 h2 =>
        obtain ⟨S', k1, k2, k3⟩ := frzL_ok frz2_ok h hl ⟨h1, h2⟩
        exact ⟨S', k1, k2, .tup _ _ _ k3.1 k3.2⟩
    · cases hx
  · exact frz2_ok h hx hr
section
variable {P : Program} {W0 : World} {O S0 : Nat → Prop} {m0 : EM} {hp hp' : List Blk} {m : EM} {S : Nat → Prop} {w : World} {a : Act} {t : Tr} {o : Oper} {v : AV}
theorem frzAll_ok : ∀ (xs : List AV) {hp hp' : List Blk} {S : Nat → Prop} {us : List Value} {ys : List AV}, HS W0 O S0 m0 hp m S w → frzAll hp xs = some (ys, hp') → RL w S m xs us →
    ∃ S', HS W0 O S0 m0 hp' m S' w ∧ (∀ c, S c → S' c) ∧ RL w S' m ys us
  | [], hp, hp', S, us, ys, h, hx, hr => by
    simp [frzAll] at hx
    obtain ⟨rfl, rfl⟩ := hx
    exact ⟨S, h, fun _ h => h, hr⟩
  | x :: xs, hp, hp', S, us, ys, h, hx, hr => by
    rcases hr.cases with ⟨e, _⟩ | ⟨_, _, u, us', e, rfl, h1, h2⟩
    · cases e
    · cases e
      simp only [frzAll] at hx
      split at hx
      · rename_i y hp1 hy
        split at hx
        · rename_i l hp2 hl
          cases hx
          obtain ⟨S1, k1, k2, k3⟩ := frz_ok h hy h1
          obtain ⟨S2, k4, k5, k6⟩ := frzAll_ok xs k1 hl (h2.mono (Keeps.refl _ _) k2 (Ext.refl _))
          exact ⟨S2, k4, fun c hc => k5 c (k2 c hc), .cons (k3.mono (Keeps.refl _ _) k5 (Ext.refl _)) k6⟩
        · cases hx
      · cases hx
theorem FrR.mono {w' : World} {S' : Nat → Prop} {m' : EM} (hf : FrR w S m t a) (hk : Keeps S w w') (hs : ∀ b, S b → S' b) (hm : Ext m m') : FrR w' S' m' t a := fun i => (hf i).mono hk hs hm
end
end Go.Vm
