/- Each operation of the virtual memory is the model's: rows, slices, appends. -/
import Derived.Test.YtlemialjfnbchaaGreatVmP
import Derived.Laws.BytesString
import Derived.IntWalk

namespace Go.Vm
open Go

section
variable {P : Program} {W0 : World} {O S0 : Nat → Prop} {m0 : EM} {hp hp' : List Blk} {m : EM} {S : Nat → Prop} {w : World} {a : Act} {t : Tr} {o : Oper} {v : AV}

/-! ### rows of zeros -/
theorem rep_get {α : Type} (l : List α) : ∀ (n i : Nat), i < n * l.length → (List.replicate n l).flatten[i]? = l[i % l.length]?
  | 0, i, h => by simp at h
  | n + 1, i, h => by
    rw [List.replicate_succ, List.flatten_cons]
    by_cases hi : i < l.length
    · rw [List.getElem?_append_left hi, Nat.mod_eq_of_lt hi]
    · rw [List.getElem?_append_right (by omega), rep_get l n (i - l.length) (by rw [Nat.succ_mul] at h; omega)]
      congr 1
      conv => rhs; rw [show i = (i - l.length) + l.length by omega]
      rw [Nat.add_mod_right]
theorem rep_len {α : Type} (l : List α) (n : Nat) : (List.replicate n l).flatten.length = n * l.length := by
  induction n with
  | zero => simp
  | succ n ih => rw [List.replicate_succ, List.flatten_cons, List.length_append, ih, Nat.succ_mul]; omega
theorem zeros_eq (z : Array Value) (n k : Nat) (hk : k = n * z.size) : ((Array.range k).map fun i => z[i % z.size]!).toList = (List.replicate n z.toList).flatten := by
  apply List.ext_getElem?
  intro i
  by_cases hi : i < k
  · rw [rep_get _ _ _ (by simpa [← hk] using hi)]
    have hs : 0 < z.size := by
      rcases Nat.eq_zero_or_pos z.size with e | e
      · rw [e] at hk; omega
      · exact e
    have hm : i % z.size < z.size := Nat.mod_lt _ hs
    simp [hi, hm]
  · rw [List.getElem?_eq_none (by simp; omega), List.getElem?_eq_none (by rw [rep_len]; simp; omega)]
theorem rep_RL {xs : List AV} {us : List Value} (h : RL w S m xs us) : ∀ n, RL w S m (List.replicate n xs).flatten (List.replicate n us).flatten
  | 0 => by simp; exact .nil
  | n + 1 => by
    rw [List.replicate_succ, List.flatten_cons, List.replicate_succ, List.flatten_cons]
    exact h.append (rep_RL h n)

/-- a row is made -/
theorem row_imm {row : Bool} {xs : List AV} {cs : List Value} (hx : RL w S m xs cs) (hi : (!row || xs.all imm0) = true) : RL w S (cond row noEM m) xs cs := by
  cases row with
  | false => exact hx
  | true => exact imms_ok hx (by simpa using hi) _
theorem row_ok (h : HS W0 O S0 m0 hp m S w) {xs : List AV} {c : Array Value} {el : TypeId} {s : Sem Next} {cs rest : List Value} {n cap sz : Nat} {row : Bool} (hc : c.toList = cs ++ rest) (hx : RL w S m xs cs) (hi : (!row || xs.all imm0) = true)
    (hcap : n ≤ cap) (hsz : cap * sz ≤ c.size) (hr : s.run P w = .ok (.value (.slice (some ⟨w.heap.size, 0, none⟩) n cap)) (w.alloc (.cells c el))) :
    Good P W0 O S0 m0 m S w s (.ref hp.length 0 0 n) (hp ++ [{ cells := xs, esz := sz, gen := 0, row := row, ro := false }]) := by
  obtain ⟨h1, h2, h3⟩ := h.alloc c el cs rest hc { cells := xs, esz := sz, gen := 0, row := row, ro := false } rfl rfl (row_imm hx hi)
  have hv : R (w.alloc (.cells c el)) S (updM m hp.length ⟨some ⟨w.heap.size, 0, c.size, sz⟩, 0⟩) (.ref hp.length 0 0 n) (.slice (some ⟨w.heap.size, 0 + 0, none⟩) n cap) :=
    R.ref _ _ 0 n ⟨some ⟨w.heap.size, 0, c.size, sz⟩, 0⟩ ⟨w.heap.size, 0, c.size, sz⟩ cap (updM_same _ _ _) rfl hcap (by simpa using hsz)
  exact ⟨_, _, _, S, hr, hv, h1, h2, fun _ h => h, h3⟩

theorem Good.weaken {m : EM} {S S1 : Nat → Prop} {w : World} {s : Sem Next} {hp' : List Blk} (hs : ∀ b, S b → S1 b) (h : Good P W0 O S0 m0 m S1 w s v hp') : Good P W0 O S0 m0 m S w s v hp' := by
  obtain ⟨nx, w', m', S', h1, h2, h3, h4, h5, h6⟩ := h
  exact ⟨nx, w', m', S', h1, h2, h3, h4, fun b hb => h5 b (hs b hb), fun b hb => h6 b (hs b hb)⟩
theorem Good.drew {m : EM} {S : Nat → Prop} {w : World} {s s' : Sem Next} {hp' : List Blk} (h : Good P W0 O S0 m0 m S w.drew s' v hp') (he : s.run P w = s'.run P w.drew) : Good P W0 O S0 m0 m S w s v hp' := by
  obtain ⟨nx, w', m', S', h1, h2, h3, h4, h5, h6⟩ := h
  exact ⟨nx, w', m', S', he.trans h1, h2, h3, h4, h5, h6⟩
theorem FrR.drew (hf : FrR w S m t a) : FrR w.drew S m t a := hf.mono (fun _ _ => rfl) (fun _ h => h) (Ext.refl _)

theorem buildSlice_ok (h : HS W0 O S0 m0 hp m S w) (hf : FrR w S m t a) {ty e : TypeId} {n sz : Nat} {z : Value} {parts : Array (Nat × Operand)} {vs cs : List AV} {hp1 : List Blk} (he : P.underlying ty = some (.slice e)) (hsz : szT P e = some sz) (hz : zeroT P e = some z)
    (hfr : frzAll hp (parts.toList.map fun q => ev t q.2) = some (vs, hp1)) (hfill : fillA (fun i => some (i * sz, sz)) ((List.replicate n (cellsA (abs1 z))).flatten) ((parts.toList.map (·.1)).zip vs) = some cs)
    (hb1 : n * sz ≤ 16777216) (_hb2 : 1 ≤ sz) (hzl : (cellsA (abs1 z)).length = sz) (hl : cs.length = n * sz) (hi : cs.all imm0 = true) (ho : o.op = .buildSlice ty n parts) :
    Good P W0 O S0 m0 m S w (execOp a.eval o) (cond (Nat.beq n 0) .emp (.lit n cs)) hp1 := by
  obtain ⟨S1, h1, h2, h3⟩ := frzAll_ok _ h hfr (evP_ok hf parts.toList)
  refine Good.weaken h2 ?_
  have hza : z.cells.size = sz := by have := (cells_abs1 (w := w) (S := S) (m := m) z).1; rw [hzl] at this; simpa using this.symm
  have hzeros : RL w S1 m ((List.replicate n (cellsA (abs1 z))).flatten) ((Array.range (n * sz)).map fun i => z.cells[i % z.cells.size]!).toList := by
    rw [zeros_eq z.cells n (n * sz) (by rw [hza])]
    exact rep_RL (cells_abs1 z) n
  have hlen : (parts.toList.map (·.1)).length = vs.length := by rw [List.length_map, h3.1, List.length_map]
  obtain ⟨cs', k1, k2⟩ := fillA_ok _ _ _ _ _ ((Array.range (n * sz)).map fun i => z.cells[i % z.cells.size]!) _ hlen h3 hzeros hfill
  rw [← zipmap] at k1
  have hpt : (parts.map fun (i, x) => (i, a.eval x)).toList = parts.toList.map fun (i, x) => (i, a.eval x) := by simp
  have hrun : (Instr.buildSlice ty n (parts.map fun (i, x) => (i, a.eval x))).run P w = .ok (.slice (some ⟨w.heap.size, 0, none⟩) n n) (w.alloc (.cells cs' e)) := by
    unfold Instr.buildSlice
    simp only [Sem.run_bind, run_underlying he, Result.andThen_ok, szT_run hsz]
    rw [if_neg (by omega)]
    by_cases hn : n * sz = 0
    · have hnz : ((Array.range (n * sz)).map fun i => z.cells[i % z.cells.size]!) = #[] := by rw [hn]; simp
      have hnz2 : ((Array.range (n * sz)).map fun i => (#[] : Array Value)[i % (#[] : Array Value).size]!) = #[] := by rw [hn]; simp
      rw [hnz] at k1
      simp only [Sem.run_bind, Sem.run_pure, Result.andThen_ok, hn, if_true, hpt]
      simp only [hn] at hnz2
      rw [hnz2, k1]
      simp [newRow]
    · rw [if_neg hn]
      simp only [Sem.run_bind, Sem.run_pure, Result.andThen_ok, zeroT_run hz, hpt, k1]
      simp [newRow]
  have hrun2 : (execOp a.eval o).run P w = .ok (.value (.slice (some ⟨w.heap.size, 0, none⟩) n n)) (w.alloc (.cells cs' e)) := by
    simp only [execOp, ho, Sem.run_bind, hrun, Result.andThen_ok, Sem.run_pure]
  have hkp : Keeps S1 w (w.alloc (.cells cs' e)) := fun b hb => heap_alloc_old w _ _ (h1.sok b hb)
  refine ⟨_, _, m, _, hrun2, ?_, h1.allocS _, Ext.refl _, fun b hb => .inl hb, hkp⟩
  by_cases hn : n = 0
  · subst hn; exact .emp _ _
  · have hb0 : Nat.beq n 0 = false := by cases hq : Nat.beq n 0 with
      | false => rfl
      | true => exact absurd (Nat.eq_of_beq_eq_true hq) hn
    rw [hb0]
    have k3 : RL w S1 noEM cs cs'.toList := imms_ok k2 hi noEM
    have k4 : RL (w.alloc (.cells cs' e)) (fun b => S1 b ∨ b = w.heap.size) noEM cs cs'.toList := k3.mono hkp (fun b hb => .inl hb) (Ext.refl _)
    refine R.lit m n cs w.heap.size 0 (fun j => cs'.toList.getD j undef) (.inr rfl) (fun j hj => ?_) (fun j hj => ?_)
    · rw [World.cell?_alloc_new, Nat.zero_add]
      have hj' : j < cs'.toList.length := k4.1 ▸ hj
      simp at hj'
      simp [List.getD, hj']
    · have hj' : j < cs'.toList.length := k4.1 ▸ hj
      have := k4.2 j hj hj'
      simpa [List.getD, List.getElem?_eq_getElem hj'] using this

/-! ### store -/
theorem range_splice {b of k : Nat} {cs vs : List Value} (hr : w.rangeAt b of cs) (hk : k + vs.length ≤ cs.length) (hthere : ∀ j, j < vs.length → (w.cell? ⟨b, of + k + j, none⟩).isSome = true) :
    (w.setCells b (of + k) vs).rangeAt b of (cs.take k ++ vs ++ cs.drop (k + vs.length)) := by
  intro j u hu
  have e1 : (cs.take k).length = k := by rw [List.length_take]; omega
  by_cases c1 : j < k
  · rw [List.append_assoc, List.getElem?_append_left (by omega), List.getElem?_take_of_lt c1] at hu
    rw [World.cell?_setCells_out _ _ _ _ _ (fun _ _ => .inl (by show of + j < of + k; omega))]
    exact hr j u hu
  · by_cases c2 : j < k + vs.length
    · rw [List.getElem?_append_left (by rw [List.length_append]; omega), List.getElem?_append_right (by omega), e1] at hu
      obtain ⟨hj, rfl⟩ := List.getElem?_eq_some_iff.1 hu
      have := World.cell?_setCells_in b vs (of + k) w hthere (j - k) hj
      rw [show of + k + (j - k) = of + j by omega] at this
      exact this
    · rw [List.getElem?_append_right (by rw [List.length_append]; omega), List.length_append, e1, List.getElem?_drop] at hu
      rw [World.cell?_setCells_out _ _ _ _ _ (fun _ _ => .inr (by show of + k + vs.length ≤ of + j; omega))]
      refine hr j u ?_
      rw [← hu]
      congr 1
      omega
theorem size_setCells (w : World) (b : Nat) : ∀ (vs : List Value) (o : Nat), (w.setCells b o vs).heap.size = w.heap.size := by
  intro vs
  induction vs generalizing w with
  | nil => intro o; rfl
  | cons v vs ih => intro o; rw [World.setCells, ih]; simp
theorem tape_setCells (w : World) (b : Nat) : ∀ (vs : List Value) (o : Nat), (w.setCells b o vs).tape = w.tape := by
  intro vs
  induction vs generalizing w with
  | nil => intro o; rfl
  | cons v vs ih => intro o; rw [World.setCells, ih]; rfl

/-- cells of a block of one's own are written -/
theorem HS.write (h : HS W0 O S0 m0 hp m S w) {i k : Nat} {b : Blk} {e : Emb} {pl : Place} {xs : List AV} {vs : List Value} (hb : hp[i]? = some b) (he : m i = some e) (hp1 : e.pl = some pl) (hkn : b.keys = none) (hro : b.ro = false) (hfit : k + xs.length ≤ b.cells.length)
    (hx : RL w S (cond b.row noEM m) xs vs) :
    HS W0 O S0 m0 (hp.set i { b with cells := splice b.cells k xs }) m S (w.setCells pl.b (pl.o + k) vs) ∧ Keeps S w (w.setCells pl.b (pl.o + k) vs) := by
  obtain ⟨g1, g2, g3⟩ := h.blk i b e hb he
  obtain ⟨q1, q2, q3, q4, cs, q5, q6⟩ := (g3 pl hp1).row hkn
  have hi : i < hp.length := (List.getElem?_eq_some_iff.1 hb).1
  have hlen : vs.length = xs.length := hx.1.symm
  have hcl : cs.length = b.cells.length := q6.1.symm
  have hupd : updM m i e = m := by funext j; by_cases ej : j = i; · subst ej; rw [updM_same, he]
                                   · rw [updM_ne _ _ ej]
  have hkeep : Keeps S w (w.setCells pl.b (pl.o + k) vs) := fun c hc => World.heap_setCells_other _ _ _ _ (h.sok c hc) (fun ec => ((h.ro i b e pl hb he hp1).2 hro).1 (ec ▸ hc))
  have key := h.upd (w' := w.setCells pl.b (pl.o + k) vs) i (Nat.le_of_lt hi) { b with cells := splice b.cells k xs } e (get_set' hp i _ hi) (some pl.b) (fun c hc => by cases hc; exact ⟨b, e, pl, hb, hro, he, hp1, rfl⟩)
    (World.os_setCells _ _ _ _) (tape_setCells _ _ _ _) (World.output_setCells _ _ _ _) (Nat.le_of_eq (size_setCells _ _ _ _).symm)
    (fun c hc hne => World.heap_setCells_other _ _ _ _ hc (fun ec => hne (by rw [ec])))
    g1 (fun hn => by rw [hp1] at hn; cases hn) (fun e' he' => by rw [he] at he'; cases he'; exact .inl rfl) hro ?_
  · rw [hupd] at key
    exact ⟨key.1, key.2.2⟩
  · intro pl' hpl'
    rw [hp1] at hpl'; cases hpl'
    refine ⟨BlkR.x ⟨q1, by rw [size_setCells]; exact q2, ?_, World.there_setCells q4 _ _ _, ?_⟩ hkn, .inr ⟨b, e, pl, hb, hro, he, hp1, rfl⟩⟩
    · have : (splice b.cells k xs).length = b.cells.length := by
        unfold splice
        rw [List.length_append, List.length_append, List.length_take, List.length_drop]; omega
      refine ⟨?_, q3.2⟩
      show pl.o + (splice b.cells k xs).length ≤ pl.s
      rw [this]; exact q3.1
    · refine ⟨cs.take k ++ vs ++ cs.drop (k + vs.length), range_splice q5 (by omega) (fun j hj => ?_), ?_⟩
      · have := (q4 (pl.o + k + j) (by omega)).1
        rwa [Nat.zero_add] at this
      · rw [hupd]
        show RL _ S (cond b.row noEM m) (splice b.cells k xs) _
        unfold splice
        rw [← hlen]
        refine RL.mono hkeep (fun _ h => h) (Ext.refl _) ((RL.append (q6.take k) hx).append (q6.drop _))

theorem storeVar_run {b of n : Nat} {ty : TypeId} {u : Value} (hn : szT P ty = some n) (hl : u.cells.size = n) (hth : ∀ j, j < n → (w.cell? ⟨b, of + j, none⟩).isSome = true ∧ w.frozen? ⟨b, of + j, none⟩ = false) (h1 : ∀ v ∈ u.cells.toList, v.oneCell' = true) :
    (storeVar ty ⟨b, of, none⟩ u).run P w = .ok () (w.setCells b of u.cells.toList) := by
  have := run_storeCells_cells (P := P) b of u.cells.toList 0 w (fun j hj => by have := (hth j (by simp at hj; omega)).1; simpa using this) (fun j hj => by have := (hth j (by simp at hj; omega)).2; simpa using this) h1
  simp only [Nat.add_zero] at this
  unfold storeVar
  rw [Sem.run_bind, szT_run hn]
  simp only [Result.andThen_ok]
  rw [if_neg (by omega), this]
theorem frzS_ok (h : HS W0 O S0 m0 hp m S w) {i g k : Nat} {x y : AV} {u : Value} {hp1 : List Blk} (hx : vop.frzS hp (.ptr i g k) x = some (y, hp1)) (hr : R w S m x u) :
    ∃ S', HS W0 O S0 m0 hp1 m S' w ∧ (∀ c, S c → S' c) ∧ R w S' m y u := by
  unfold vop.frzS at hx
  simp only at hx
  split at hx
  · rename_i b hb
    cases hrow : b.row with
    | true => rw [hrow, cond_true] at hx; exact frz_ok h hx hr
    | false => rw [hrow, cond_false] at hx; cases hx; exact ⟨S, h, fun _ h => h, hr⟩
  · cases hx
theorem store_ok (h : HS W0 O S0 m0 hp m S w) (hf : FrR w S m t a) {ty : TypeId} {x y : Operand} {i g k n : Nat} {hp1 hp2 : List Blk} (hpe : ev t x = .ptr i g k) (hn : szT P ty = some n) (hfz : vop.frzS hp (.ptr i g k) (ev t y) = some (v, hp1))
    (hl : (cellsA v).length = n) (hst : stV hp1 i g k (cellsA v) = some hp2) (ho : o.op = .store ty x y) : Good P W0 O S0 m0 m S w (execOp a.eval o) (.p undef) hp2 := by
  obtain ⟨S1, h1, h2, h3⟩ := frzS_ok h hfz (ev_ok hf y)
  have hpx := (ev_ok hf x).mono (Keeps.refl _ _) h2 (Ext.refl _)
  rw [hpe] at hpx
  refine Good.weaken h2 ?_
  unfold stV at hst
  split at hst
  · rename_i b hb
    cases hc : (!b.ro && Nat.ble (k + (cellsA v).length) b.cells.length && (cellsA v).all one && (!b.row || (cellsA v).all imm0)) with
    | false => rw [hc] at hst; cases hst
    | true =>
      rw [hc, cond_true] at hst
      cases hst
      simp only [Bool.and_eq_true, Bool.not_eq_true', Bool.or_eq_true] at hc
      obtain ⟨⟨⟨c1, c2⟩, c3⟩, c4⟩ := hc
      have c2' := Nat.le_of_ble_eq_true c2
      obtain ⟨b1, b2, e, b3, b4, b5, b6⟩ := getB_ok h1 hb
      generalize hu : a.eval x = ux at hpx
      cases hpx with
      | ptr m i k e' pl q1 q2 =>
        rw [b3] at q1; cases q1
        have hcx := cells_ok h3 c3
        have hcx' : RL w S1 (cond b.row noEM m) (cellsA v) (a.eval y).cells.toList := by
          cases hrow : b.row with
          | false => exact hcx
          | true =>
            rw [hrow] at c4
            rcases c4 with c4 | c4
            · cases c4
            · exact imms_ok hcx c4 _
        obtain ⟨r1, r2, r3, r4, _⟩ := b6 pl q2
        obtain ⟨k1, k2⟩ := h1.write b1 b3 q2 (getB_keys hb) c1 c2' hcx'
        have hsz : (a.eval y).cells.size = n := by rw [← hl, hcx.1]; simp
        have hrun := storeVar_run (P := P) (w := w) (b := pl.b) (of := pl.o + k) hn hsz (fun j hj => by have := r4 (pl.o + k + j) (by omega); rwa [Nat.zero_add] at this) (ones_ok hcx c3)
        refine ⟨.skip, _, m, S1, ?_, rfl, k1, Ext.refl _, fun _ h => h, k2⟩
        simp [execOp, ho, hu, Instr.storeAt, Instr.sureAddr, hrun]
      | ptrOld m i g k e' ad q1 q2 => rw [b3] at q1; cases q1; omega
  · cases hst

/-! ### elements -/
theorem indexAddr_slice_ok (h : HS W0 O S0 m0 hp m S w) (hf : FrR w S m t a) {ty e : TypeId} {x ix : Operand} {i sz : Nat} (hi : natOf (ev t ix) = some i) (hu : P.underlying ty = some (.slice e)) (hsz : szT P e = some sz)
    (hx : (∃ n xs, (ev t x = .lst n xs ∨ ev t x = .lit n xs) ∧ i < n ∧ v = .ip xs (i * sz)) ∨ (∃ b g k n bl, ev t x = .ref b g k n ∧ getB hp b g = some bl ∧ i < n ∧ v = .ptr b g (k + i * sz))) (ho : o.op = .indexAddr ty x ix) :
    Good P W0 O S0 m0 m S w (execOp a.eval o) v hp := by
  obtain ⟨kd, hix⟩ := natOf_ok hi (ev_ok hf ix)
  have hr := ev_ok hf x
  have key : ∃ ad n c, a.eval x = .slice (some ad) n c ∧ i < n ∧ R w S m v (.pointer (some (ad.add (i * sz)))) := by
    generalize a.eval x = ux at hr ⊢
    rcases hx with ⟨n, xs, e1, e2, rfl⟩ | ⟨b, g, k, n, bl, e1, e2, e3, rfl⟩
    · rcases e1 with e1 | e1 <;> rw [e1] at hr
      · cases hr with
        | lst0 m a c => omega
        | lst m n xs b o c f h0 h1 h2 h3 => exact ⟨_, n, c, rfl, e2, by rw [Addr.add_mid]; exact .ip _ _ _ _ _ f h1 h2 h3⟩
      · cases hr with
        | lit m n xs b o f h1 h2 h3 => exact ⟨_, n, n, rfl, e2, by rw [Addr.add_mid]; exact .ip _ _ _ _ _ f h1 h2 h3⟩
    · rw [e1] at hr
      obtain ⟨b1, b2, e', b3, b4, b5, b6⟩ := getB_ok h e2
      cases hr with
      | ref m i k n e pl c q1 q2 q3 q4 => exact ⟨_, n, c, rfl, e3, by rw [Addr.add_mid, Nat.add_assoc]; exact .ptr _ _ _ _ _ q1 q2⟩
      | refNil m i e a q1 q2 => omega
      | refOld m i g k n e ad l c q1 q2 => rw [b3] at q1; cases q1; omega
  obtain ⟨ad, n, c, hux, hlt, hrv⟩ := key
  refine Good.same h (u := .pointer (some (ad.add (i * sz)))) ?_ hrv
  have : (Instr.indexAt ty (a.eval x) (a.eval ix)).run P w = .ok (.pointer (some (ad.add (i * sz)))) w := by
    rw [hux, hix]
    unfold Instr.indexAt
    simp only [asIntOf, Sem.run_bind, Sem.run_pure, Result.andThen_ok, run_underlying hu]
    rw [if_pos ⟨Int.natCast_nonneg i, by omega⟩]
    simp [szT_run hsz]
  simp only [execOp, ho, Sem.run_bind, this, Result.andThen_ok, Sem.run_pure]
theorem indexAddr_array_ok (h : HS W0 O S0 m0 hp m S w) (hf : FrR w S m t a) {ty e : TypeId} {x ix : Operand} {i n sz : Nat} (hi : natOf (ev t ix) = some i) (hu : P.underlying ty = some (.array n e)) (hsz : szT P e = some sz) (hlt : i < n)
    (hx : (∃ b g k, ev t x = .ptr b g k ∧ v = .ptr b g (k + i * sz)) ∨ (∃ xs k, ev t x = .ip xs k ∧ v = .ip xs (k + i * sz))) (ho : o.op = .indexAddr ty x ix) :
    Good P W0 O S0 m0 m S w (execOp a.eval o) v hp := by
  obtain ⟨kd, hix⟩ := natOf_ok hi (ev_ok hf ix)
  obtain ⟨ad, hux, hrv⟩ := ptr_move (off := i * sz) (ev_ok hf x) hx
  refine Good.same h (u := .pointer (some (ad.add (i * sz)))) ?_ hrv
  have : (Instr.indexAt ty (a.eval x) (a.eval ix)).run P w = .ok (.pointer (some (ad.add (i * sz)))) w := by
    rw [hux, hix]
    unfold Instr.indexAt
    simp only [asIntOf, Sem.run_bind, Sem.run_pure, Result.andThen_ok, run_underlying hu, Instr.sureAddr]
    rw [if_pos ⟨Int.natCast_nonneg i, by omega⟩]
    simp [szT_run hsz]
  simp only [execOp, ho, Sem.run_bind, this, Result.andThen_ok, Sem.run_pure]

/-! ### make -/
theorem bytesT_info {e : TypeId} {k : Nat} (h : bytesT P e = some k) : ∃ i, P.info? e = some i ∧ i.bytes = k := by
  unfold bytesT at h
  cases hi : P.info? e with
  | none => rw [hi] at h; cases h
  | some i => rw [hi] at h; cases h; exact ⟨i, rfl, rfl⟩
theorem szT_info {e : TypeId} {k : Nat} (h : szT P e = some k) : ∃ i, P.info? e = some i ∧ i.size = k := by
  unfold szT at h
  cases hi : P.info? e with
  | none => rw [hi] at h; cases h
  | some i => rw [hi] at h; cases h; exact ⟨i, rfl, rfl⟩
theorem makeSlice_ok (h : HS W0 O S0 m0 hp m S w) (hf : FrR w S m t a) {ty e : TypeId} {ln cp : Operand} {n sz by_ : Nat} {z : Value} (he : P.underlying ty = some (.slice e)) (hn : natOf (ev t ln) = some n) (hc : natOf (ev t cp) = some n)
    (hsz : szT P e = some sz) (hby : bytesT P e = some by_) (hz : zeroT P e = some z) (hb : by_ * n ≤ 70368744177664) (_h1 : 1 ≤ sz) (h1b : 1 ≤ by_) (hzl : (cellsA (abs1 z)).length = sz) (hi : ((List.replicate n (cellsA (abs1 z))).flatten).all imm0 = true) (ho : o.op = .makeSlice ty ln cp) :
    Good P W0 O S0 m0 m S w (execOp a.eval o) (.ref hp.length 0 0 n) (hp ++ [{ cells := (List.replicate n (cellsA (abs1 z))).flatten, esz := sz, gen := 0, row := plainZ (cellsA (abs1 z)), ro := false }]) := by
  obtain ⟨k1, hln⟩ := natOf_ok hn (ev_ok hf ln)
  obtain ⟨k2, hcp⟩ := natOf_ok hc (ev_ok hf cp)
  obtain ⟨i, hi1, hi2⟩ := bytesT_info hby
  have hza : z.cells.size = sz := by have := (cells_abs1 (w := w) (S := S) (m := m) z).1; rw [hzl] at this; simpa using this.symm
  have hnb : n ≤ 70368744177664 := Nat.le_trans (Nat.le_mul_of_pos_left n h1b) hb
  have hw : IntKind.i64.wrap (n : Int) = n := by
    exact IntWalk.i64_in _ (by omega)
  have hbi : (by_ : Int) * (n : Int) ≤ 70368744177664 := by
    have h3 : ((by_ * n : Nat) : Int) ≤ 70368744177664 := Int.ofNat_le.2 hb
    rwa [Int.natCast_mul] at h3
  refine row_ok (c := (Array.range (n * sz)).map fun i => z.cells[i % z.cells.size]!) (cs := ((Array.range (n * sz)).map fun i => z.cells[i % z.cells.size]!).toList) (rest := []) (el := e) (cap := n) h (by simp) ?_ (by rw [hi, Bool.or_true]) (Nat.le_refl n) (by simp) ?_
  · rw [zeros_eq z.cells n (n * sz) (by rw [hza])]
    exact rep_RL (cells_abs1 z) n
  · have hrun : (Instr.makeSlice ty (a.eval ln) (a.eval cp)).run P w = .ok (.slice (some ⟨w.heap.size, 0, none⟩) n n) (w.alloc (.cells ((Array.range (n * sz)).map fun i => z.cells[i % z.cells.size]!) e)) := by
      rw [hln, hcp]
      unfold Instr.makeSlice
      simp only [Sem.run_bind, run_underlying he, Result.andThen_ok, asInt, asIntOf, Sem.run_pure, typeInfo, run_program, hi1, hw, hi2]
      have ht : (decide ((n : Int) < 0) || decide ((by_ : Int) * (n : Int) > 2 ^ 48)) = false := by
        rw [Bool.or_eq_false_iff]
        exact ⟨decide_eq_false (by omega), decide_eq_false (by omega)⟩
      rw [if_neg (by simp only [ht, Bool.false_or, Bool.or_eq_true, decide_eq_true_eq]; omega)]
      simp only [run_askRoom, Sem.run_bind,  Result.andThen_ok, Int.toNat_natCast, szT_run hsz]
      by_cases hnz : n * sz = 0
      · have hz2 : ((Array.range (n * sz)).map fun i => z.cells[i % z.cells.size]!) = #[] := by rw [hnz]; simp
        rw [hz2]
        simp only [hnz, if_true, Sem.run_pure, Result.andThen_ok, newRow, run_newObj, Sem.run_bind, World.alloc_eq]
        congr 4
        simp
      · rw [if_neg hnz]
        simp [zeroT_run hz, newRow]
    simp only [execOp, ho, Sem.run_bind, hrun, Result.andThen_ok, Sem.run_pure]
end
end Go.Vm
